/-
  Chapter 6: the walk of ModelLongest.
-/
import Derived.Test.YtddaeaimimdonaaLawM1
import Derived.Test.YtddaeaimimdonaaReachH
import Derived.Test.YtddaeaimimdonaaLaw5D
import Derived.Deep.RegionHeld3
namespace Go.Proofs.Ytddaeaimimdonaa
open Go.RowKit Go.Maps
set_option linter.unusedVariables false

/-- A way through a right program that does not go back is over in time. -/
theorem go_longest {l : List Ins} {args : List Int} {maxw x : Int} (hl : rightP l = true) (hok : ∀ i ∈ l, i.Ok) : ∀ (n : Nat) (r : MRun) (p q : Nat), r.pc = p → OnWay l x true p q → p < l.length → x = (q : Int) + n → (goP l args maxw n r).code ≠ 41 ∨ r.code = 41
  | 0, r, p, q, hp, hw, hlt, hx => by
    exact absurd (by omega : x ≤ (q : Int)) (hw.lt (List.getElem?_eq_getElem hlt))
  | n + 1, r, p, q, hp, hw, hlt, hx => by
    have hi : l[p]? = some (l[p]'hlt) := List.getElem?_eq_getElem hlt
    have hd := step_doing args maxw (l.getD r.pc.toNat noIns) { r with steps := r.steps + 1 }
    have hg : l.getD r.pc.toNat noIns = l[p]'hlt := by rw [hp, List.getD_eq_getElem?_getD, Int.toNat_natCast, hi]; rfl
    rcases at_cases l args maxw r with h1 | ⟨h1, h2⟩ | ⟨h1, h2⟩
    · left
      rw [goP_err h1]
      show (atP l args maxw r).1 ≠ 41
      rcases hd.err with e | e | e | e | e <;> (rw [show (atP l args maxw r).1 = _ from e]; decide)
    · by_cases hc : r.code = 41
      · exact .inr hc
      · left
        rw [goP_end h1 h2, show (atP l args maxw r).2.code = r.code from hd.code]
        exact hc
    · rw [goP_on h1 h2]
      have hnx := step_next (args := args) (maxw := maxw) (i := l[p]'hlt) (r := { r with steps := r.steps + 1 }) (p := p) hp (by rw [← hg]; exact h1) (by rw [← hg]; exact h2)
      rw [← hg] at hnx
      have h64 := (hok _ (List.mem_of_getElem? hi)).imm.1
      obtain ⟨j, hj1, hj2⟩ := right_next hl hi h64 (by rw [hg] at hnx; exact hnx)
      have hon := hw.step hl hi (j := j) (by rw [← hj1, ← hg]; rw [hg] at hnx ⊢; exact hnx)
      rcases go_longest hl hok n (atP l args maxw r).2 j (q + 1) (by rw [← hj1, ← hg]) hon hj2 (by omega) with h | h
      · exact .inl h
      · exact .inr ((show (atP l args maxw r).2.code = r.code from hd.code).symm.trans h)
theorem most_le {l : List Ins} {vs : List Int} (hl : rightP l = true) (hok : ∀ i ∈ l, i.Ok) (h : MostFrom l vs 0) : ∀ (m k : Nat), l.length - k ≤ m → k < l.length → vs.getD k 0 ≤ (l.length : Int) - k
  | 0, k, hm, hk => by omega
  | m + 1, k, hm, hk => by
    have hi : l[k]? = some (l[k]'hk) := List.getElem?_eq_getElem hk
    rcases (h.most k _ (by omega) hi).is with e | ⟨j, hj, hS, e⟩
    · rw [e]; omega
    · have hjl := right_lt hl hok k j _ hi hS
      have := most_le hl hok h m j (by omega) hjl
      omega
/-- The box of a job. -/
theorem bk_job {w : World} {g : Nat} {j : Job} (h : Bk w g 28 j.cells.toArray) {a0 a1 a2 a3 : Int} (ha : j.args = [a0, a1, a2, a3]) :
    w.cell? ⟨g, 0, none⟩ = some (.slice j.A j.n j.c) ∧ w.cell? ⟨g, 1, none⟩ = some (.int .u64 a0) ∧ w.cell? ⟨g, 2, none⟩ = some (.int .u64 a1) ∧ w.cell? ⟨g, 3, none⟩ = some (.int .u64 a2) ∧ w.cell? ⟨g, 4, none⟩ = some (.int .u64 a3) ∧
      w.cell? ⟨g, 5, none⟩ = some (.int .i64 j.fuel) ∧ w.cell? ⟨g, 6, none⟩ = some (.int .i64 j.maxw) ∧ w.cell? ⟨g, 7, none⟩ = some (.slice j.pA j.pn j.pc) := by
  have hc : j.cells = [.slice j.A j.n j.c, .int .u64 a0, .int .u64 a1, .int .u64 a2, .int .u64 a3, .int .i64 j.fuel, .int .i64 j.maxw, .slice j.pA j.pn j.pc] := by
    unfold Job.cells; rw [ha]; rfl
  rw [hc] at h
  exact ⟨(h.cell 0).trans rfl, (h.cell 1).trans rfl, (h.cell 2).trans rfl, (h.cell 3).trans rfl, (h.cell 4).trans rfl, (h.cell 5).trans rfl, (h.cell 6).trans rfl, (h.cell 7).trans rfl⟩
theorem one_job {w : World} {j : Job} {B : Nat} (h : j.In w B) (hB : B ≤ w.heap.size) : RdJ (w.alloc (.cells j.cells.toArray 28)) (w.heap.size + 1) (some ⟨w.heap.size, 0, none⟩) 1 [j] := by
  refine ⟨?_, rfl, fun x hx => ?_⟩
  · have := Rd.new w j.cells.toArray 28 (size := 8) (m := 1) (by simp [h.cells_len]) (by simp [maxLen])
    simpa using this
  · simp at hx
    subst hx
    exact (h.below ((Below.refl _ _).alloc hB _)).more (by omega)
theorem Bk.ty {w : World} {g : Nat} {t t' : TypeId} {cs cs' : Array Value} (h : Bk w g t cs) (h' : Bk w g t' cs') : t = t' := by
  unfold Bk at h h'
  rw [h] at h'
  injection h' with h'
  injection h' with _ h'
theorem Bk.grown_new {w w' : World} {t : TypeId} {cs : Array Value} {row : Option Nat} (hb : (w.alloc (.cells cs t)).grownBy w' row) (hne : row ≠ some w.heap.size) : Bk w' w.heap.size t cs :=
  (Bk.new w t cs).grown hb hne
theorem BkS.ne_job {w : World} {sb mb g : Nat} {roots : List Int} {cs : Array Value} (h : BkS w sb roots mb) (hg : Bk w g 28 cs) : sb ≠ g := by
  rintro rfl
  exact absurd (Bk.ty h hg) (by decide)
theorem BkS.ne_done {w : World} {sb mb g : Nat} {roots : List Int} {cs : Array Value} (h : BkS w sb roots mb) (hg : Bk w g 38 cs) : sb ≠ g := by
  rintro rfl
  exact absurd (Bk.ty h hg) (by decide)
theorem bk_done {w : World} {g : Nat} {a0 a1 a2 a3 a4 : Value} (h : Bk w g 38 #[a0, a1, a2, a3, a4]) :
    w.cell? ⟨g, 0, none⟩ = some a0 ∧ w.cell? ⟨g, 1, none⟩ = some a1 ∧ w.cell? ⟨g, 2, none⟩ = some a2 ∧ w.cell? ⟨g, 3, none⟩ = some a3 ∧ w.cell? ⟨g, 4, none⟩ = some a4 ∧
      w.frozen? ⟨g, 0, none⟩ = false ∧ w.frozen? ⟨g, 1, none⟩ = false ∧ w.frozen? ⟨g, 2, none⟩ = false ∧ w.frozen? ⟨g, 3, none⟩ = false ∧ w.frozen? ⟨g, 4, none⟩ = false :=
  ⟨(h.cell 0).trans rfl, (h.cell 1).trans rfl, (h.cell 2).trans rfl, (h.cell 3).trans rfl, (h.cell 4).trans rfl, h.frozen 0, h.frozen 1, h.frozen 2, h.frozen 3, h.frozen 4⟩
set_option maxRecDepth 100000 in
set_option maxHeartbeats 8000000 in
theorem longest_walk (j : Job) (w : World) (hj : j.In w w.heap.size) :
    Calls Try.prog 8 #[.agg j.cells.toArray] w fun e w' => e = .returned (.bool true) ∧ Below w.heap.size w w' := by
  obtain ⟨a0, a1, a2, a3, ha⟩ := four hj.args4
  have hc : j.cells.toArray = #[.slice j.A j.n j.c, .int .u64 a0, .int .u64 a1, .int .u64 a2, .int .u64 a3, .int .i64 j.fuel, .int .i64 j.maxw, .slice j.pA j.pn j.pc] := by
    unfold Job.cells; rw [ha]; rfl
  rw [hc]
  obtain ⟨jA, jn, jc, code, args, fu, mw, pA, pn, pc, pick⟩ := j
  obtain rfl : pick.length = pn := hj.pick.u64Len
  obtain rfl : args = [a0, a1, a2, a3] := ha
  have HJ := Lib.hid hj
  have HC := Lib.hid hc
  simp only at hc ⊢
  clear hj hc
  go_enter Try.func8, Try.ntmps8
  go_wp2_with fail
  obtain ⟨W1, hW1⟩ : ∃ W1, w.alloc (.cells #[.slice jA jn jc, .int .u64 a0, .int .u64 a1, .int .u64 a2, .int .u64 a3, .int .i64 fu, .int .i64 mw, .slice pA pick.length pc] 28) = W1 := ⟨_, rfl⟩
  have hb1 : Below w.heap.size w W1 := by rw [← hW1]; exact (Below.refl _ _).alloc (Nat.le_refl _) _
  have hx1 : Bk W1 w.heap.size 28 (Job.cells ⟨jA, jn, jc, code, [a0, a1, a2, a3], fu, mw, pA, pick.length, pc, pick⟩).toArray := by
    rw [← hW1, HC.out]; exact Bk.new _ _ _
  rw [hW1]
  refine (alive6_any _).mono ?_
  rintro e W2 ⟨rfl, hb2⟩
  have HB2 := Lib.hid (hb1.trans (hb2.mono hb1.size))
  have HX2 := Lib.hid (hx1.below hb2 hx1.lt)
  have HJ2 := Lib.hid (HJ.out.below HB2.out)
  have HZ2 := Lib.hid HX2.out.lt
  clear hW1 hb1 hx1 hb2
  obtain ⟨k0, k1, k2, k3, k4, k5, k6, k7⟩ := bk_job HX2.out rfl
  simp only at k0 k5 k6 k7
  go_wp2_with fail
  obtain ⟨W3, hW3⟩ : ∃ W3, W2.alloc (.cells #[.slice jA jn jc, .int .u64 a0, .int .u64 a1, .int .u64 a2, .int .u64 a3, .int .i64 fu, .int .i64 mw, .slice pA pick.length pc] 28) = W3 := ⟨_, rfl⟩
  have hrj : RdJ W3 W3.heap.size (some ⟨W2.heap.size, 0, none⟩) 1 [⟨jA, jn, jc, code, [a0, a1, a2, a3], fu, mw, pA, pick.length, pc, pick⟩] := by
    rw [← hW3]
    have h := one_job (HJ2.out) (Nat.le_of_lt HZ2.out)
    rw [HC.out] at h
    exact h.more (by simp)
  have hb3 : Below W2.heap.size W2 W3 := by rw [← hW3]; exact (Below.refl _ _).alloc (Nat.le_refl _) _
  rw [hW3]
  refine (few_any _ _ 1 1 _ hrj).mono ?_
  rintro e W4 ⟨rfl, hb4⟩
  have h24 := hb3.trans (hb4.mono hb3.size)
  have HB4 := Lib.hid (HB2.out.trans (h24.mono HB2.out.size))
  have HX4 := Lib.hid (HX2.out.below h24 HZ2.out)
  have HJ4 := Lib.hid (HJ2.out.below (h24.mono (Nat.le_of_lt HZ2.out)))
  have HZ4 := Lib.hid HX4.out.lt
  clear hW3 hrj hb3 hb4 h24 k0 k1 k2 k3 k4 k5 k6 k7
  obtain ⟨k0, k1, k2, k3, k4, k5, k6, k7⟩ := bk_job HX4.out rfl
  simp only at k0 k5 k6 k7
  cases hfew : fewP [⟨jA, jn, jc, code, [a0, a1, a2, a3], fu, mw, pA, pick.length, pc, pick⟩]
  · go_wp2
    go_ret
    exact ⟨rfl, HB4.out⟩
  have hfw : jn ≤ 40 ∧ fu ≤ 400 ∧ pick.length ≤ 20 := by
    unfold fewP at hfew
    simp [Job.few] at hfew
    omega
  obtain ⟨f1, f2, f3⟩ := hfw
  clear hfew
  go_wp2_with fail
  refine (rright_any code jA jn jc _ (HJ4.out.code.more (Nat.le_of_lt HZ4.out)) HJ4.out.ok).mono ?_
  rintro e W5 ⟨rfl, hb5⟩
  have HB5 := Lib.hid (HB4.out.trans (hb5.mono HB4.out.size))
  have HX5 := Lib.hid (HX4.out.below hb5 HZ4.out)
  have HJ5 := Lib.hid (HJ4.out.below (hb5.mono (Nat.le_of_lt HZ4.out)))
  have HZ5 := Lib.hid HX5.out.lt
  clear hb5 k0 k1 k2 k3 k4 k5 k6 k7
  obtain ⟨k0, k1, k2, k3, k4, k5, k6, k7⟩ := bk_job HX5.out rfl
  simp only at k0 k5 k6 k7
  cases hri : rightP code
  · go_wp2
    go_ret
    exact ⟨rfl, HB5.out⟩
  have HRI := Lib.hid hri
  clear hri
  go_wp2_with fail
  refine (longest_any code jA jn jc _ (HJ5.out.code.more (Nat.le_of_lt HZ5.out)) HJ5.out.ok).mono ?_
  rintro e W6 ⟨x, b, rfl, hb6, hl⟩
  rw [if_pos HRI.out] at hl
  have HB6 := Lib.hid (HB5.out.trans (hb6.mono HB5.out.size))
  have HX6 := Lib.hid (HX5.out.below hb6 HZ5.out)
  have HJ6 := Lib.hid (HJ5.out.below (hb6.mono (Nat.le_of_lt HZ5.out)))
  have HZ6 := Lib.hid HX6.out.lt
  have hln : code.length = jn := HJ.out.code.insLen
  have hx : 0 ≤ x ∧ x ≤ 40 := by
    rcases hl with ⟨_, rfl, _⟩ | ⟨_, _, vs, hv, rfl⟩
    · omega
    · have h1 := (hv.most 0 _ (by omega) (List.getElem?_eq_getElem (right_parts HRI.out).1)).one
      have h2 := most_le HRI.out HJ.out.ok hv code.length 0 (by omega) (right_parts HRI.out).1
      omega
  have hgo : Hid (b = true → (runP emptyS code [a0, a1, a2, a3] x mw pick).code ≠ 41 ∧ (runP emptyS code [a0, a1, a2, a3] x mw pick).steps ≤ x) := by
    show _ → _
    rintro rfl
    have hr : runP emptyS code [a0, a1, a2, a3] x mw pick = goP code [a0, a1, a2, a3] mw x.toNat (startP emptyS pick) := by unfold runP; rw [if_pos HRI.out]
    rw [hr]
    have hxn : x = ((0 : Nat) : Int) + (x.toNat : Nat) := by omega
    constructor
    · rcases go_longest (args := [a0, a1, a2, a3]) (maxw := mw) HRI.out HJ.out.ok x.toNat (startP emptyS pick) 0 0 rfl (OnWay.start hl) (right_parts HRI.out).1 hxn with h | h
      · exact h
      · cases h
    · rcases go_fuel code [a0, a1, a2, a3] mw x.toNat (startP emptyS pick) rfl with ⟨_, h2⟩ | ⟨k, h1, h2, _, h4, _⟩
      · rw [h2]; show (0 : Int) + _ ≤ _; omega
      · rw [h4]; show (0 : Int) + _ ≤ _; omega
  obtain ⟨R, hR⟩ : ∃ R, runP emptyS code [a0, a1, a2, a3] x mw pick = R := ⟨_, rfl⟩
  rw [hR] at hgo
  obtain ⟨rst, rregs, rcode, rval, rsteps, rwrites, rnews, rpick, rpc, rended⟩ := R
  have HR := Lib.hid hR
  obtain ⟨hx0, hx1⟩ := hx
  clear hl hb6 hln hR k0 k1 k2 k3 k4 k5 k6 k7
  obtain ⟨k0, k1, k2, k3, k4, k5, k6, k7⟩ := bk_job HX6.out rfl
  simp only at k0 k5 k6 k7
  have hrun : ∀ (W : World) (B sb mb : Nat), StIn W B 0 sb mb emptyS → Below w.heap.size w W → Calls Try.prog 17 #[.pointer (some ⟨sb, 0, none⟩), .slice jA jn jc, .agg #[.int .u64 a0, .int .u64 a1, .int .u64 a2, .int .u64 a3], .int .i64 x, .int .i64 mw, .slice pA pick.length pc] W
      fun e W' => ∃ nA nc, e = .returned (.agg #[.int .i64 rcode, .int .u64 rval, .int .i64 rsteps, .int .i64 rwrites, .slice nA rnews.length nc]) ∧ W.grownBy W' (some sb) := by
    intro W B sb mb h hb
    have hj := HJ.out.below hb
    refine (run_any B 0 sb mb emptyS code jA jn jc [a0, a1, a2, a3] x mw pick pA pc W h emptyS_ok (hj.code.more hb.size) hj.ok rfl hj.argsOk (by omega) hj.maxw (hj.pick.more hb.size) hj.pickOk hj.pcap (by omega) (by omega)).mono ?_
    rintro e wr ⟨⟨nv, mbr, rfl, hst, hown, _, _⟩, _, hgr⟩
    rw [HR.out] at hown ⊢
    obtain ⟨nA, nc, rfl, _⟩ := Rd.of_own hown
    exact ⟨nA, nc, rfl, hgr⟩
  have HRun := Lib.hid hrun
  clear hrun
  have k1x := HX6.out.frozen 0
  have q0 : W6.drew.cell? ⟨w.heap.size, 0, none⟩ = some (.slice jA jn jc) := k0
  have q1 : W6.drew.cell? ⟨w.heap.size, 1, none⟩ = some (.int .u64 a0) := k1
  have q2 : W6.drew.cell? ⟨w.heap.size, 2, none⟩ = some (.int .u64 a1) := k2
  have q3 : W6.drew.cell? ⟨w.heap.size, 3, none⟩ = some (.int .u64 a2) := k3
  have q4 : W6.drew.cell? ⟨w.heap.size, 4, none⟩ = some (.int .u64 a3) := k4
  have q6 : W6.drew.cell? ⟨w.heap.size, 6, none⟩ = some (.int .i64 mw) := k6
  have q7 : W6.drew.cell? ⟨w.heap.size, 7, none⟩ = some (.slice pA pick.length pc) := k7
  have HXd : Hid (Bk W6.drew w.heap.size 28 (Job.cells ⟨jA, jn, jc, code, [a0, a1, a2, a3], fu, mw, pA, pick.length, pc, pick⟩).toArray) := HX6.out
  have HJd : Hid (Job.In W6.drew w.heap.size ⟨jA, jn, jc, code, [a0, a1, a2, a3], fu, mw, pA, pick.length, pc, pick⟩) := HJ6.out.below (Below.refl _ _).drew
  have HBd : Hid (Below w.heap.size w W6.drew) := HB6.out.drew
  clear k1x
  go_wp2_with fail
  go_region_held3 (fun w' => w'.cell? ⟨w.heap.size, 0, none⟩ = some (.slice jA jn jc) ∧ w'.cell? ⟨w.heap.size, 1, none⟩ = some (.int .u64 a0) ∧ w'.cell? ⟨w.heap.size, 2, none⟩ = some (.int .u64 a1) ∧ w'.cell? ⟨w.heap.size, 3, none⟩ = some (.int .u64 a2) ∧ w'.cell? ⟨w.heap.size, 4, none⟩ = some (.int .u64 a3) ∧ w'.cell? ⟨w.heap.size, 6, none⟩ = some (.int .i64 mw) ∧ w'.cell? ⟨w.heap.size, 7, none⟩ = some (.slice pA pick.length pc))
    (first | with_reducible exact ⟨q0, q1, q2, q3, q4, q6, q7⟩ | with_reducible exact ⟨k0, k1, k2, k3, k4, k6, k7⟩ | go_keep)
    (first
      | (go_at_call 16
         refine (mnew_any _).mono ?_
         rintro e wn ⟨sb, mb, rfl, hst, hbn⟩
         have hbd : Below w.heap.size w wn ∧ w.heap.size ≤ sb := by
           have h := HB6.out
           first
             | exact ⟨h.drew.trans (hbn.mono h.drew.size), Nat.le_trans h.drew.size hst.bs⟩
             | exact ⟨(h.alloc h.size _).drew.trans (hbn.mono (h.alloc h.size _).drew.size), Nat.le_trans (h.alloc h.size _).drew.size hst.bs⟩
         have hxd : Bk wn w.heap.size 28 (Job.cells ⟨jA, jn, jc, code, [a0, a1, a2, a3], fu, mw, pA, pick.length, pc, pick⟩).toArray := by
           have h := HX6.out
           first
             | exact h.drew.below hbn h.drew.lt
             | exact (h.alloc _).drew.below hbn (h.alloc _).drew.lt
         try (have hdn : Bk wn W6.heap.size 38 #[.int .i64 0, .int .u64 0, .int .i64 0, .int .i64 0, .slice none 0 0] := (Bk.new W6 _ _).drew.below hbn (Bk.new W6 _ _).drew.lt
              have HDn := Lib.hid hdn
              clear hdn)
         have HSb := Lib.hid hbd.2
         have HBd := Lib.hid hbd.1
         have HXd := Lib.hid hxd
         have HSt := Lib.hid hst
         have HJd := Lib.hid (HJ.out.below HBd.out)
         obtain ⟨q0, q1, q2, q3, q4, _, q6, q7⟩ := bk_job HXd.out rfl
         clear hst hbn hbd hxd)
      | (go_at_call 17
         go_loud (
            have h0 := HSt.out
            have h1 := HBd.out
            have h0a := fun o => h0.more (World.grownBy_alloc wn o none)
            have h1a := fun o => h1.alloc h1.size o
            refine (HRun.out _ _ sb mb (by with_reducible first | exact h0 | exact h0a _) (by with_reducible first | exact h1 | exact h1a _)).mono ?_
            rintro e wr ⟨nA, nc, rfl, hgr⟩
            have hbr : Below w.heap.size w wr := by
              have h := HBd.out
              have hs := HSb.out
              first
                | (with_reducible have h2 := h.grown hgr h.size (fun k hk => by cases hk; exact hs)
                   exact h2)
                | (with_reducible have h2 := (h.alloc h.size _).grown hgr (h.alloc h.size _).size (fun k hk => by cases hk; exact hs)
                   exact h2)
            have hsl : sb < wn.heap.size := HSt.out.st.lt
            have hnw : w.heap.size ≠ wn.heap.size := Nat.ne_of_lt HXd.out.lt
            have hnw' : wn.heap.size ≠ w.heap.size := fun e => hnw e.symm
            have hn6 : w.heap.size ≠ W6.heap.size := Nat.ne_of_lt HZ6.out
            have hn6' : W6.heap.size ≠ w.heap.size := fun e => hn6 e.symm
            have hns : some sb ≠ some w.heap.size := fun e => HSt.out.st.ne_job HXd.out (Option.some.inj e)
            have hxd : Bk wr w.heap.size 28 (Job.cells ⟨jA, jn, jc, code, [a0, a1, a2, a3], fu, mw, pA, pick.length, pc, pick⟩).toArray := by
              have h := HXd.out
              first
                | (with_reducible have h2 := h.grown hgr hns
                   exact h2)
                | (with_reducible have h2 := (h.alloc _).grown hgr hns
                   exact h2)
            try (have hne : some sb ≠ some W6.heap.size := fun e => BkS.ne_done HSt.out.st HDn.out (Option.some.inj e)
                 have h := HDn.out
                 with_reducible have h2 := h.grown hgr hne
                 obtain ⟨m0, m1, m2, m3, m4, f0, f1, f2, f3, f4⟩ := bk_done h2
                 clear h2 h hne)
            try (have hne : some sb ≠ some wn.heap.size := fun e => absurd (Option.some.inj e) (Nat.ne_of_lt hsl)
                 have h2 : Bk wr wn.heap.size 38 #[.int .i64 0, .int .u64 0, .int .i64 0, .int .i64 0, .slice none 0 0] := Bk.grown_new (by with_reducible assumption) hne
                 obtain ⟨m0, m1, m2, m3, m4, f0, f1, f2, f3, f4⟩ := bk_done h2
                 clear h2 hne)
            have HBr := Lib.hid hbr
            have HXd := Lib.hid hxd
            obtain ⟨q0, q1, q2, q3, q4, _, q6, q7⟩ := bk_job HXd.out rfl
            clear h0 h1 h0a h1a hgr hbr hxd hns hsl)))
  all_goals
    have hfin : ∀ (g : Nat) (b0 b1 b2 b3 b4 : Value), w.heap.size ≤ g → Below w.heap.size w (((((wr.setCell ⟨g, 0, none⟩ b0).setCell ⟨g, 1, none⟩ b1).setCell ⟨g, 2, none⟩ b2).setCell ⟨g, 3, none⟩ b3).setCell ⟨g, 4, none⟩ b4) := fun g b0 b1 b2 b3 b4 hg => below_five HBr.out hg b0 b1 b2 b3 b4
    have HFin := Lib.hid hfin
    clear hfin
    cases b
    · go_wp2
      go_ret
      refine ⟨rfl, ?_⟩
      first
        | exact HBr.out.alloc HBr.out.size _
        | exact HFin.out _ _ _ _ _ _ HBd.out.size
        | exact HFin.out _ _ _ _ _ _ HB6.out.size
    · obtain ⟨g1, g2⟩ := hgo.out rfl
      have hne : (rcode != 41) = true := by simpa using g1
      clear g1
      go_wp2
      go_ret
      refine ⟨rfl, ?_⟩
      first
        | exact HBr.out.alloc HBr.out.size _
        | exact HFin.out _ _ _ _ _ _ HBd.out.size
        | exact HFin.out _ _ _ _ _ _ HB6.out.size
end Go.Proofs.Ytddaeaimimdonaa
