/-
  Chapter 19, plain: the whole is right. Printed by gen/lawl4p.py (lines of LawL2P, LawL3P). Chapter 19: the walk of LinkJoins.
-/
import Derived.Test.YtddaeaimimdonaaLkR
import Derived.Test.YtddaeaimimdonaaLkF
import Derived.Test.YtddaeaimimdonaaLkH
import Derived.Test.YtddaeaimimdonaaLjO
import Derived.Test.YtddaeaimimdonaaCtrH
import Derived.Deep.RegionLaw
namespace Go.Proofs.Ytddaeaimimdonaa
open Go.RowKit
set_option linter.unusedVariables false

theorem oneL_size (code : List Ins) (A : List PArg) (k at_ j : Nat) : (oneL code A k at_ j).length = sizeL code j := by
  unfold oneL sizeL
  simp only []
  by_cases h1 : (code.getD j noIns).op = 17 ∨ (code.getD j noIns).op = 18 ∨ (code.getD j noIns).op = 19
  · rw [if_pos h1, if_neg (by omega)]; rfl
  rw [if_neg h1]
  by_cases h2 : (code.getD j noIns).op = 8
  · rw [if_pos h2, if_neg (by omega)]; rfl
  rw [if_neg h2]
  by_cases h3 : (code.getD j noIns).op = 20
  · rw [if_pos h3]
    by_cases h4 : j + 1 < code.length
    · rw [if_pos h4, if_pos ⟨h3, h4⟩]; rfl
    · rw [if_neg h4, if_neg (by omega)]; rfl
  · rw [if_neg h3, if_neg (by omega)]; rfl
theorem onesL_size (code : List Ins) (A : List PArg) (k at_ : Nat) : ∀ m, (onesL code A k at_ m).length = beforeL code m
  | 0 => rfl
  | m + 1 => by rw [onesL_snoc, List.length_append, onesL_size code A k at_ m, oneL_size, beforeL]
theorem ok_mk {op a b c imm : Int} (h0 : 0 ≤ op ∧ op ≤ 21) (ha : 0 ≤ a ∧ a < 16) (hb : 0 ≤ b ∧ b < 16) (hc : 0 ≤ c ∧ c < 16) (hi : 0 ≤ imm ∧ imm ≤ 18446744073709551615) : Ins.Ok ⟨op, a, b, c, imm⟩ := by
  constructor <;> simp only <;> omega
theorem ones_ok {code : List Ins} {A : List PArg} {k at_ : Nat} (h : PartOk code A k) (hok : ∀ i ∈ code, i.Ok) (hA : ∀ a ∈ A, a.Ok) (hA4 : A.length = 4) (hk : k < 4) (hat : at_ ≤ 1000) {j : Nat} (hj : j < code.length) : ∀ i ∈ oneL code A k at_ j, i.Ok := by
  intro y hy
  have hij : code[j]? = some (code[j]'hj) := List.getElem?_eq_getElem hj
  obtain ⟨i, hi'⟩ : ∃ i, code[j]'hj = i := ⟨_, rfl⟩
  rw [hi'] at hij
  have hgj : code.getD j noIns = i := by rw [List.getD_eq_getElem?_getD, hij]; rfl
  have hmem := List.mem_of_getElem? hij
  have hreg := h.reg hok i hmem
  have hins := right_insOk h.right hok hij
  have hone := h.one hok hA (by omega) i hmem
  have hlen := h.len
  unfold oneL at hy
  simp only [hgj] at hy
  by_cases hjmp : i.op = 17 ∨ i.op = 18 ∨ i.op = 19
  · simp only [if_pos hjmp] at hy
    obtain rfl := List.mem_singleton.1 hy
    have hg := hone.go hjmp
    have hb := beforeL_two code i.imm.toNat
    exact ok_mk hins.op hreg.a hreg.b hreg.c (by omega)
  simp only [if_neg hjmp] at hy
  by_cases h8 : i.op = 8
  · simp only [if_pos h8] at hy
    obtain rfl := List.mem_singleton.1 hy
    have him := hone.arg h8
    have hm4 : i.imm.toNat < A.length := by omega
    have hga : A.getD i.imm.toNat ⟨0, 0⟩ = A[i.imm.toNat]'hm4 := by rw [List.getD_eq_getElem?_getD, List.getElem?_eq_getElem hm4]; rfl
    have hmA := List.getElem_mem hm4
    rw [← hga] at hmA
    have hv := (hA _ hmA).val
    have hb := of_decide_eq_false (h.args _ hmA)
    unfold handedP
    split
    · exact ok_mk (by decide) hreg.a (by decide) (by decide) hv
    split
    · exact ok_mk (by decide) hreg.a (by have := hv.1; omega) (by decide) (by decide)
    · exact ok_mk (by decide) hreg.a (by decide) (by decide) hv
  simp only [if_neg h8] at hy
  by_cases h20 : i.op = 20
  · simp only [if_pos h20] at hy
    rcases List.mem_cons.1 hy with rfl | hy
    · exact ok_mk (by decide) (by omega) hreg.a (by decide) (by decide)
    · split at hy
      · obtain rfl := List.mem_singleton.1 hy
        have hb := beforeL_two code code.length
        exact ok_mk (by decide) (by decide) (by decide) (by decide) (by omega)
      · cases hy
  · simp only [if_neg h20] at hy
    obtain rfl := List.mem_singleton.1 hy
    exact hok _ hmem
def regsL (code : List Ins) : List Nat := (List.range 16).filter fun r => code.any fun i => usesOf i r
theorem clearL_regs (code : List Ins) : clearL code = (regsL code).map fun (r : Nat) => (⟨0, (r : Int), 0, 0, 0⟩ : Ins) := rfl
theorem set_right {N p r : Nat} (hr : r < 16) : oneE N p ⟨0, (r : Int), 0, 0, 0⟩ = 0 := by
  have hf : fieldB (r : Int) true = true := field_ok (by omega)
  have hpl : Ins.plain ⟨0, (r : Int), 0, 0, 0⟩ = true := by
    unfold Ins.plain plainB
    rw [show regsOf 0 = 1 from rfl, show immOf 0 = true from rfl]
    simp [fieldB]
    omega
  unfold oneE
  rw [hpl]
  simp (decide := true) only [↓reduceIte]
theorem pos_split (code : List Ins) : ∀ (n p : Nat), p < beforeL code n → ∃ j x, j < n ∧ x < sizeL code j ∧ p = beforeL code j + x
  | 0, p, h => by simp [beforeL] at h
  | n + 1, p, h => by
    by_cases hp : p < beforeL code n
    · obtain ⟨j, x, h1, h2, h3⟩ := pos_split code n p hp
      exact ⟨j, x, by omega, h2, h3⟩
    · rw [beforeL] at h
      exact ⟨n, p - beforeL code n, by omega, by omega, by omega⟩
theorem ones_at (code : List Ins) (A : List PArg) (k at_ : Nat) : ∀ (n j x : Nat), j < n → x < (oneL code A k at_ j).length → (∀ q, (oneL code A k at_ q).length = sizeL code q) → (onesL code A k at_ n).getD (beforeL code j + x) noIns = (oneL code A k at_ j).getD x noIns ∧ beforeL code j + x < (onesL code A k at_ n).length
  | 0, j, x, hj, _, _ => by omega
  | n + 1, j, x, hj, hx, hs => by
    have hl : ∀ m, (onesL code A k at_ m).length = beforeL code m := fun m => by
      induction m with
      | zero => rfl
      | succ m ih => rw [onesL_snoc, List.length_append, ih, hs, beforeL]
    rw [onesL_snoc]
    by_cases hlt : j < n
    · obtain ⟨e1, e2⟩ := ones_at code A k at_ n j x hlt hx hs
      refine ⟨?_, by rw [List.length_append]; omega⟩
      rw [List.getD_eq_getElem?_getD, List.getElem?_append_left e2, ← List.getD_eq_getElem?_getD, e1]
    · obtain rfl : j = n := by omega
      refine ⟨?_, by rw [List.length_append, hl]; omega⟩
      rw [List.getD_eq_getElem?_getD, List.getElem?_append_right (by rw [hl]; omega), hl, Nat.add_sub_cancel_left, ← List.getD_eq_getElem?_getD]
structure PartsOk (l : List Prt) : Prop where
  ok : ∀ (k : Nat) (q : Prt), l[k]? = some q → PartOk q.code q.args k
  ins : ∀ q ∈ l, ∀ i ∈ q.code, i.Ok
  args : ∀ q ∈ l, ∀ a ∈ q.args, a.Ok
  four : ∀ q ∈ l, q.args.length = 4
  few : l.length ≤ 4
theorem all_at {l : List Prt} {k : Nat} {q : Prt} (h : l[k]? = some q) : allL l (k + 1) = startL (allL l k) k q.code ++ onesL q.code q.args k (startL (allL l k) k q.code).length q.code.length := by
  rw [allL_snoc h]; rfl
theorem all_ins {l : List Prt} (h : PartsOk l) {N : Nat} : ∀ k, k ≤ l.length → (allL l k).length < N → ∀ p i, (allL l k)[p]? = some i → oneE N p i = 0
  | 0, _, _, p, i, hi => by simp [allL] at hi
  | k + 1, hk, hN, p, i, hi => by
    have hq : l[k]? = some (l[k]'(by omega)) := List.getElem?_eq_getElem (by omega)
    obtain ⟨q, hqq⟩ : ∃ q, l[k]'(by omega) = q := ⟨_, rfl⟩
    rw [hqq] at hq
    have hm := List.mem_of_getElem? hq
    have hp := h.ok k q hq
    have hfew := h.few
    obtain ⟨S, hS⟩ : ∃ S, startL (allL l k) k q.code = S := ⟨_, rfl⟩
    have e := all_at hq
    rw [hS] at e
    have hl1 : (allL l (k + 1)).length = S.length + beforeL q.code q.code.length := by rw [e, List.length_append, onesL_size]
    have hsl := startL_len (allL l k) k q.code
    rw [hS] at hsl
    rw [e] at hi
    by_cases h1 : p < S.length
    · rw [List.getElem?_append_left h1] at hi
      by_cases h2 : p < (allL l k).length
      · refine all_ins h k (by omega) (by omega) p i ?_
        rw [← hS] at hi
        unfold startL at hi
        split at hi
        · exact hi
        · rw [List.getElem?_append_left h2] at hi; exact hi
      · rw [← hS] at hi h1
        unfold startL at hi h1
        split at hi
        · rename_i h0
          rw [if_pos h0] at h1
          exact absurd h1 h2
        · rw [List.getElem?_append_right (by omega), clearL_regs, List.getElem?_map] at hi
          obtain ⟨r, hr, rfl⟩ := Option.map_eq_some_iff.1 hi
          have hr := List.mem_of_getElem? hr
          exact set_right (List.mem_range.1 (List.mem_filter.1 hr).1)
    · rw [List.getElem?_append_right (by omega)] at hi
      have hlt := (List.getElem?_eq_some_iff.1 hi).1
      rw [onesL_size] at hlt
      obtain ⟨j, x, h3, h4, h5⟩ := pos_split q.code q.code.length (p - S.length) hlt
      have ho := one_right (at_ := S.length) (N := N) hp (h.ins q hm) (h.args q hm) (h.four q hm) (by omega) h3 (x := x) (by rw [oneL_size]; exact h4) (by omega)
      obtain ⟨e1, _⟩ := ones_at q.code q.args k S.length q.code.length j x h3 (by rw [oneL_size]; exact h4) (oneL_size q.code q.args k S.length)
      rw [← e1, ← h5, List.getD_eq_getElem?_getD, hi] at ho
      rw [show S.length + beforeL q.code j + x = p by omega] at ho
      exact ho
theorem whole_right {l : List Prt} (h : PartsOk l) (h1 : 0 < l.length) (h256 : (wholeL l).length ≤ 256) : rightP (wholeL l) = true := by
  have hl : (wholeL l).length = (allL l l.length).length + 1 := by unfold wholeL; rw [List.length_append]; rfl
  have hfew := h.few
  refine right_of (by omega) h256 (fun p i hi => ?_) ?_
  · rw [hl]
    unfold wholeL at hi
    by_cases hp : p < (allL l l.length).length
    · rw [List.getElem?_append_left hp] at hi
      exact all_ins h l.length (Nat.le_refl _) (by omega) p i hi
    · rw [List.getElem?_append_right (by omega)] at hi
      obtain ⟨rfl⟩ : (⟨20, 11 + (l.length : Int), 0, 0, 0⟩ : Ins) = i := by
        have hlt := (List.getElem?_eq_some_iff.1 hi).1
        have : p - (allL l l.length).length = 0 := by simp at hlt; omega
        rw [this] at hi
        simpa using hi
      have hf : fieldB (11 + (l.length : Int)) true = true := field_ok (by omega)
      have hpl : Ins.plain ⟨20, 11 + (l.length : Int), 0, 0, 0⟩ = true := by
        unfold Ins.plain plainB
        rw [show regsOf 20 = 1 from rfl]
        simp [fieldB]
        omega
      unfold oneE
      rw [hpl]
      simp (decide := true) only [↓reduceIte]
  · unfold lastEnds
    rw [hl, Nat.add_sub_cancel]
    unfold wholeL
    rw [List.getElem?_append_right (Nat.le_refl _), Nat.sub_self]
    rfl
theorem all_ok {l : List Prt} (h : PartsOk l) : ∀ k, k ≤ l.length → (allL l k).length ≤ 600 → ∀ i ∈ allL l k, i.Ok
  | 0, _, _, i, hi => by simp [allL] at hi
  | k + 1, hk, hN, i, hi => by
    have hq : l[k]? = some (l[k]'(by omega)) := List.getElem?_eq_getElem (by omega)
    obtain ⟨q, hqq⟩ : ∃ q, l[k]'(by omega) = q := ⟨_, rfl⟩
    rw [hqq] at hq
    have hm := List.mem_of_getElem? hq
    have hfew := h.few
    have e := all_at hq
    have hsl := startL_len (allL l k) k q.code
    rw [e] at hi hN
    rw [List.length_append] at hN
    rcases List.mem_append.1 hi with hi | hi
    · unfold startL at hi
      split at hi
      · exact all_ok h k (by omega) (by omega) i hi
      · rcases List.mem_append.1 hi with hi | hi
        · exact all_ok h k (by omega) (by omega) i hi
        · rw [clearL_regs] at hi
          obtain ⟨r, hr, rfl⟩ := List.mem_map.1 hi
          have hr := List.mem_range.1 (List.mem_filter.1 hr).1
          exact ok_mk (by decide) (by omega) (by decide) (by decide) (by decide)
    · obtain ⟨j, hj, hi⟩ := List.mem_flatMap.1 hi
      exact ones_ok (h.ok k q hq) (h.ins q hm) (h.args q hm) (h.four q hm) (by omega) (by omega) (List.mem_range.1 hj) i hi
theorem whole_ok {l : List Prt} (h : PartsOk l) (h256 : (wholeL l).length ≤ 256) : ∀ i ∈ wholeL l, i.Ok := fun i hi => by
  have hl : (wholeL l).length = (allL l l.length).length + 1 := by unfold wholeL; rw [List.length_append]; rfl
  have hfew := h.few
  unfold wholeL at hi
  rcases List.mem_append.1 hi with hi | hi
  · exact all_ok h l.length (Nat.le_refl _) (by omega) i hi
  · obtain rfl := List.mem_singleton.1 hi
    exact ok_mk (by decide) (by omega) (by decide) (by decide) (by decide)
end Go.Proofs.Ytddaeaimimdonaa
namespace Go.Proofs.Ytddaeaimimdonaa
open Go.RowKit Go.Maps
set_option linter.unusedVariables false

theorem joinL_right {l : List Prt} {L : List Ins} {x : Int} (h : joinL l = (L, x)) (hok : ∀ q ∈ l, (∀ i ∈ q.code, i.Ok) ∧ (∀ a ∈ q.args, a.Ok) ∧ q.args.length = 4) : rightP L = decide (x = 0) ∧ ∀ i ∈ L, i.Ok := by
  have hno : rightP [] = false := by decide
  have hnil : ∀ i ∈ ([] : List Ins), i.Ok := fun i hi => by simp at hi
  unfold joinL at h
  split at h
  · cases h; exact ⟨by rw [hno]; decide, hnil⟩
  rename_i h0
  split at h
  · cases h; exact ⟨by rw [hno]; decide, hnil⟩
  rename_i h4
  split at h
  · rename_i hf
    cases h
    exact ⟨by rw [hno, decide_eq_false hf], hnil⟩
  rename_i hf
  split at h
  · cases h; exact ⟨by rw [hno]; decide, hnil⟩
  rename_i h256
  cases h
  have hf0 : faultsL l 0 = 0 := by simpa using hf
  have hps : PartsOk l := ⟨fun k q hq => part_ok (by have := faults_all l 0 hf0 k q hq; simpa using this), fun q hq => (hok q hq).1, fun q hq => (hok q hq).2.1, fun q hq => (hok q hq).2.2, by omega⟩
  exact ⟨by rw [whole_right hps (by omega) (by omega)]; rfl, whole_ok hps (by omega)⟩
set_option maxRecDepth 100000 in
set_option maxHeartbeats 8000000 in
theorem joins_walk (l : List Prt) (A : Option Addr) (n c : Nat) (w : World) (hl : RdP w w.heap.size A n l) (hcap : n ≤ c) :
    Calls Try.prog 9 #[.slice A n c] w fun e w' => e = .returned (.bool true) ∧ Below w.heap.size w w' := by
  have HL := Lib.hid hl
  clear hl
  go_enter Try.func9, Try.ntmps9
  go_wp2_with fail
  refine (alive19_any _).mono ?_
  rintro e W1 ⟨rfl, hb1⟩
  have HB1 := Lib.hid hb1
  clear hb1
  go_wp2_with fail
  refine (lfew_any l A n c _ ((HL.out.below HB1.out).more HB1.out.size)).mono ?_
  rintro e W2 ⟨rfl, hb2⟩
  have HB2 := Lib.hid (HB1.out.trans (hb2.mono HB1.out.size))
  clear hb2
  cases hfew : fewL l
  · go_wp2
    go_ret
    exact ⟨rfl, HB2.out⟩
  have hn6 : n ≤ 6 := by
    unfold fewL at hfew
    rw [Bool.and_eq_true] at hfew
    have := of_decide_eq_true hfew.2
    have := HL.out.len
    omega
  clear hfew
  have HL2 := Lib.hid ((HL.out.below HB2.out).more HB2.out.size)
  obtain ⟨L, x, hj⟩ : ∃ L x, joinL l = (L, x) := ⟨_, _, rfl⟩
  have HJ := Lib.hid hj
  have HRt := Lib.hid (joinL_right hj fun q hq => ⟨(HL.out.all q hq).ok, (HL.out.all q hq).argsOk, (HL.out.all q hq).args4⟩)
  clear hj
  go_wp2_with fail
  refine (join_is (m := L.length) HJ.out rfl HL2.out).mono ?_
  rintro e W3 ⟨v, rfl, hown, hb3⟩
  obtain ⟨Aj, cj, rfl, hcj, hrj⟩ := Rd.of_own_cap hown
  have HB3 := Lib.hid (HB2.out.trans (hb3.mono HB2.out.size))
  have HL3 := Lib.hid ((HL2.out.below hb3).more hb3.size)
  have HR3 := Lib.hid (show RdI W3 W3.heap.size Aj L.length L from hrj)
  clear hown hb3 hrj
  go_wp2_with fail
  refine (las_any l A n c _ HL3.out (by omega)).mono ?_
  rintro e W4 ⟨v4, rfl, ho4, hb4⟩
  obtain ⟨Ap, cp, rfl, _, hrp⟩ := Rd.of_own_cap ho4
  have HB4 := Lib.hid (HB3.out.trans (hb4.mono HB3.out.size))
  have HP4 : Hid (RdP W4 W4.heap.size Ap n l) := ⟨hrp, HL.out.len, fun j hj => ((HL3.out.all j hj).below hb4).more hb4.size⟩
  have HR4 := Lib.hid ((HR3.out.below hb4).more hb4.size)
  clear ho4 hb4 hrp
  go_wp2_with fail
  refine (jjoin_any l Ap n cp _ HP4.out).mono ?_
  rintro e W5 ⟨v5, he5, ho5, hb5⟩
  rw [HJ.out] at he5 ho5
  subst he5
  obtain ⟨Aw, cw, rfl, _, hrw⟩ := Rd.of_own_cap ho5
  have HB5 := Lib.hid (HB4.out.trans (hb5.mono HB4.out.size))
  have HR5 := Lib.hid ((HR4.out.below hb5).more hb5.size)
  have HW5 := Lib.hid (show RdI W5 W5.heap.size Aw L.length L from hrw)
  clear ho5 hb5 hrw
  have hxx : (x == x) = true := by simp
  go_wp2_with fail
  refine (same_any L L Aj Aw L.length cj L.length cw _ HR5.out HW5.out).mono ?_
  rintro e W6 ⟨rfl, hb6⟩
  rw [decide_eq_true rfl]
  have HB6 := Lib.hid (HB5.out.trans (hb6.mono HB5.out.size))
  have HR6 := Lib.hid ((HR5.out.below hb6).more hb6.size)
  clear hb6
  go_wp2_with fail
  refine (right_any L Aj L.length cj _ HR6.out HRt.out.2).mono ?_
  rintro e W7 ⟨rfl, hb7⟩
  rw [HRt.out.1]
  have HB7 := Lib.hid (HB6.out.trans (hb7.mono HB6.out.size))
  clear hb7
  by_cases hx0 : x = 0
  · have e0 : (x == 0) = true := by simpa using hx0
    rw [decide_eq_true hx0]
    clear hx0
    go_wp2
    go_ret
    exact ⟨rfl, HB7.out⟩
  · have e0 : (x == 0) = false := by simpa using hx0
    rw [decide_eq_false hx0]
    clear hx0
    go_wp2
    go_ret
    exact ⟨rfl, HB7.out⟩
end Go.Proofs.Ytddaeaimimdonaa
