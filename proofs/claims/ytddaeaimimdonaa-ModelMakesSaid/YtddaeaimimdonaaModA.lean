/-
  Chapter 6: contracts of model.bit, run.pay, model.Reckon.
-/
import Derived.Test.YtddaeaimimdonaaModP
import Derived.Deep.QuietTactic
import Derived.BigQuiet
import Derived.IntWalk
import Derived.Maps.AppendAt
namespace Go.Proofs.Ytddaeaimimdonaa
open Go.RowKit
set_option linter.unusedVariables false

theorem grown_set (w : World) (g k : Nat) (v : Value) : w.grownBy (w.setCell ⟨g, k, none⟩ v) (some g) := by
  refine ⟨rfl, rfl, rfl, by simp [World.setCell], fun i hi hne => ?_⟩
  simp only [World.setCell]
  rw [Array.getElem?_modify, if_neg (fun e => hne (by rw [e]))]
theorem grown_drewN (w : World) (n : Nat) (row : Option Nat) : w.grownBy (w.drewN n) row := ⟨rfl, rfl, rfl, Nat.le_refl _, fun _ _ _ => rfl⟩
theorem grown_drew (w : World) (row : Option Nat) : w.grownBy w.drew row := ⟨rfl, rfl, rfl, Nat.le_refl _, fun _ _ _ => rfl⟩
theorem BkR.drewN {w : World} {g : Nat} {c : RC} (h : BkR w g c) (n : Nat) : BkR (w.drewN n) g c := h
theorem BkR.drew {w : World} {g : Nat} {c : RC} (h : BkR w g c) : BkR w.drew g c := h
theorem BkR.grown {w w' : World} {g : Nat} {c : RC} {row : Option Nat} (h : BkR w g c) (hg : w.grownBy w' row) (hne : row ≠ some g) : BkR w' g c := ⟨h.1.grown hg hne, h.2⟩
theorem BkR.alloc {w : World} {g : Nat} {c : RC} (h : BkR w g c) (o : Obj) : BkR (w.alloc o) g c := ⟨h.1.alloc o, h.2⟩
theorem BkR.lt {w : World} {g : Nat} {c : RC} (h : BkR w g c) : g < w.heap.size := h.1.lt

theorem bit_any (b : Bool) (w : World) : Calls Try.prog 70 #[.bool b] w fun e w' => e = .returned (.int .u64 (if b then 1 else 0)) ∧ w = w' := by
  cases b
  · go_enter Try.func70, Try.ntmps70
    go_wp2
    go_ret
    exact ⟨rfl, rfl⟩
  · go_enter Try.func70, Try.ntmps70
    go_wp2
    go_ret
    exact ⟨rfl, rfl⟩

theorem writesOf_bd (op : Int) : 0 ≤ writesOf op ∧ writesOf op ≤ 9 := by
  unfold writesOf
  constructor <;> (repeat (first | split | omega))

def PayPost (g : Nat) (c : RC) (op : Int) (w : World) (e : Ending) (w' : World) : Prop :=
  (if c.maxw - c.writes < writesOf op then e = .returned (.int .i64 42) ∧ BkR w' g c else e = .returned (.int .i64 0) ∧ BkR w' g { c with writes := c.writes + writesOf op }) ∧ w.grownBy w' (some g)
theorem PayPost.no {g : Nat} {c : RC} {op : Int} {w w' : World} (h : c.maxw - c.writes < writesOf op) (hb : BkR w' g c) (hg : w.grownBy w' (some g)) : PayPost g c op w (.returned (.int .i64 42)) w' := by
  refine ⟨?_, hg⟩
  rw [if_pos h]; exact ⟨rfl, hb⟩
theorem PayPost.yes {g : Nat} {c : RC} {op : Int} {w w' : World} (h : ¬ c.maxw - c.writes < writesOf op) (hb : BkR w' g { c with writes := c.writes + writesOf op }) (hg : w.grownBy w' (some g)) : PayPost g c op w (.returned (.int .i64 0)) w' := by
  refine ⟨?_, hg⟩
  rw [if_neg h]; exact ⟨rfl, hb⟩

set_option maxHeartbeats 2000000 in
theorem pay_any (g : Nat) (c : RC) (op : Int) (w : World) (h : BkR w g c) (hm : -9223372036854775808 ≤ c.maxw ∧ c.maxw ≤ 9223372036854775807) (hw : 0 ≤ c.writes ∧ c.writes ≤ 1000000000000) (hl : c.writes ≤ c.maxw ∨ c.writes = 0) :
    Calls Try.prog 69 #[.pointer (some ⟨g, 0, none⟩), .int .i64 op] w (PayPost g c op w) := by
  have HB := Lib.hid h
  have hbd := writesOf_bd op
  have k21 : w.cell? ⟨g, 21, none⟩ = some (.int .i64 c.maxw) := (h.tail 0).trans rfl
  have k26 : w.cell? ⟨g, 26, none⟩ = some (.int .i64 c.writes) := (h.tail 5).trans rfl
  have f26 := h.bk.frozen 26
  obtain ⟨M, hM⟩ : ∃ M, c.maxw = M := ⟨_, rfl⟩
  obtain ⟨W, hW⟩ : ∃ W, c.writes = W := ⟨_, rfl⟩
  obtain ⟨n, hn⟩ : ∃ n, writesOf op = n := ⟨_, rfl⟩
  rw [hM] at k21 hm hl
  rw [hW] at k26 hw hl
  rw [hn] at hbd
  have HM := Lib.hid hM
  have HW := Lib.hid hW
  have HN := Lib.hid hn
  have hs0 : -9223372036854775808 ≤ M - W := by omega
  have hs1 : M - W ≤ 9223372036854775807 := by omega
  have hwr : IntKind.i64.wrap (M - W) = M - W := IntWalk.i64_in _ (by omega)
  have hwr2 : IntKind.i64.wrap (W + n) = W + n := IntWalk.i64_in _ (by omega)
  clear h hM hW hn hl
  by_cases ht : M - W < n
  · have hd : decide (n > M - W) = true := decide_eq_true ht
    have hd2 : decide (M - W < n) = true := decide_eq_true ht
    go_enter Try.func69, Try.ntmps69
    go_wp2_with fail
    refine (costs_any op _).mono ?_
    rintro e w1 ⟨rfl, rfl⟩
    rw [HN.out]
    go_wp2_with fail
    go_quiet (fail)
    go_wp2
    go_ret
    exact PayPost.no (by rw [HM.out, HW.out, HN.out]; omega) (HB.out.drewN _) (grown_drewN _ _ _)
  · have hd : decide (n > M - W) = false := decide_eq_false ht
    have hd2 : decide (M - W < n) = false := decide_eq_false ht
    go_enter Try.func69, Try.ntmps69
    go_wp2_with fail
    refine (costs_any op _).mono ?_
    rintro e w1 ⟨rfl, rfl⟩
    rw [HN.out]
    go_wp2_with fail
    go_quiet (fail)
    go_wp2
    go_ret
    refine PayPost.yes (by rw [HM.out, HW.out, HN.out]; omega) ?_ ((grown_drewN _ _ _).trans (grown_set _ _ _ _))
    rw [HN.out, HW.out]
    exact (HB.out.drewN _).setAny (RC.set_writes HB.out.2.1 HB.out.2.2 _) HB.out.2.1 HB.out.2.2

theorem and15 : ∀ k : Fin 16, bits .and .i64 (k.val : Int) 15 = (k.val : Int) := by decide +kernel
theorem and3u : ∀ k : Fin 4, bits .and .u64 (k.val : Int) 3 = (k.val : Int) := by decide +kernel
def Ins.v (i : Ins) : Value := .agg #[.int .i64 i.op, .int .i64 i.a, .int .i64 i.b, .int .i64 i.c, .int .u64 i.imm]
theorem u64s_get {l : List Int} {k : Nat} (h : k < l.length) : (u64s l).toArray[k]? = some (.int .u64 (l.getD k 0)) := by simp [h]
theorem getD_u64 {l : List Int} (h : ∀ x ∈ l, U64 x) (k : Nat) : U64 (l.getD k 0) := by
  rw [List.getD_eq_getElem?_getD]
  cases hk : l[k]? with
  | none => exact ⟨by decide, by decide⟩
  | some x => exact h x (List.mem_of_getElem? hk)

set_option maxRecDepth 100000 in
set_option maxHeartbeats 4000000 in
theorem reckon_any (i : Ins) (regs args : List Int) (w : World) (hr : regs.length = 16) (ha : args.length = 4) (hu : ∀ x ∈ regs, U64 x) (hb : 0 ≤ i.b ∧ i.b < 16) (hc : 0 ≤ i.c ∧ i.c < 16) (hm : i.op = 8 → 0 ≤ i.imm ∧ i.imm < 4) :
    Calls Try.prog 55 #[i.v, .agg (u64s regs).toArray, .agg (u64s args).toArray] w fun e w' => e = .returned (.int .u64 (reckonP i regs args)) ∧ w.grownBy w' none := by
  obtain ⟨op, ia, ib, ic, imm⟩ := i
  simp only at hb hc hm
  obtain ⟨b, rfl⟩ : ∃ b : Nat, ib = (b : Int) := ⟨ib.toNat, by omega⟩
  obtain ⟨c, rfl⟩ : ∃ c : Nat, ic = (c : Int) := ⟨ic.toNat, by omega⟩
  have hb16 : b < 16 := by omega
  have hc16 : c < 16 := by omega
  have hab : bits .and .i64 (b : Int) 15 = (b : Int) := and15 ⟨b, hb16⟩
  have hac : bits .and .i64 (c : Int) 15 = (c : Int) := and15 ⟨c, hc16⟩
  obtain ⟨CR, hCR⟩ : ∃ CR, (u64s regs).toArray = CR := ⟨_, rfl⟩
  obtain ⟨CA, hCA⟩ : ∃ CA, (u64s args).toArray = CA := ⟨_, rfl⟩
  have sR : CR.size = 16 := by rw [← hCR]; simp [hr]
  have sA : CA.size = 4 := by rw [← hCA]; simp [ha]
  obtain ⟨X, hX⟩ : ∃ X, regs.getD b 0 = X := ⟨_, rfl⟩
  obtain ⟨Y, hY⟩ : ∃ Y, regs.getD c 0 = Y := ⟨_, rfl⟩
  have uX : U64 X := by rw [← hX]; exact getD_u64 hu b
  have uY : U64 Y := by rw [← hY]; exact getD_u64 hu c
  have gX : CR[b]? = some (.int .u64 X) := by rw [← hCR, ← hX]; exact u64s_get (by omega)
  have gY : CR[c]? = some (.int .u64 Y) := by rw [← hCR, ← hY]; exact u64s_get (by omega)
  obtain ⟨W3, hW3⟩ : ∃ W3, ((w.alloc (.cells #[.int .i64 op, .int .i64 ia, .int .i64 b, .int .i64 c, .int .u64 imm] 43)).alloc (.cells CR 52)).alloc (.cells CA 25) = W3 := ⟨_, rfl⟩
  have k1 : W3.cell? ⟨w.heap.size + 1, b, none⟩ = some (.int .u64 X) := by
    rw [← hW3]
    have h1 := ((Bk.new (w.alloc (.cells #[.int .i64 op, .int .i64 ia, .int .i64 b, .int .i64 c, .int .u64 imm] 43)) 52 CR).alloc (.cells CA 25)).cell b
    rw [gX] at h1
    simpa using h1
  have k2 : W3.cell? ⟨w.heap.size + 1, c, none⟩ = some (.int .u64 Y) := by
    rw [← hW3]
    have h1 := ((Bk.new (w.alloc (.cells #[.int .i64 op, .int .i64 ia, .int .i64 b, .int .i64 c, .int .u64 imm] 43)) 52 CR).alloc (.cells CA 25)).cell c
    rw [gY] at h1
    simpa using h1
  have k3 : ∀ j : Nat, j < 5 → W3.cell? ⟨w.heap.size, j, none⟩ = #[.int .i64 op, .int .i64 ia, .int .i64 b, .int .i64 c, .int .u64 imm][j]? := by
    intro j _
    rw [← hW3]
    exact (((Bk.new w 43 #[.int .i64 op, .int .i64 ia, .int .i64 b, .int .i64 c, .int .u64 imm]).alloc _).alloc _).cell j
  have q0 := (k3 0 (by omega)).trans rfl
  have q2 := (k3 2 (by omega)).trans rfl
  have q3 := (k3 3 (by omega)).trans rfl
  have q4 := (k3 4 (by omega)).trans rfl
  have hG : Hid (w.grownBy W3 none) := by show World.grownBy _ _ _; rw [← hW3]; exact ((World.grownBy_alloc _ _ _).trans (World.grownBy_alloc _ _ _)).trans (World.grownBy_alloc _ _ _)
  clear k3 gX gY
  have HW3 := Lib.hid hW3
  have HE : Hid (reckonP ⟨op, ia, b, c, imm⟩ regs args = if op = 0 then imm else if op = 1 then X else if op = 2 then wrapU (X + Y) else if op = 3 then wrapU (X - Y) else if op = 4 then wrapU (X * Y) else if op = 5 then (if Y = 0 then X else X % Y) else if op = 6 then (if X = Y then 1 else 0) else if op = 7 then (if X < Y then 1 else 0) else if op = 8 then args.getD imm.toNat 0 else 0) := by
    show _ = _
    rw [← hX, ← hY]; rfl
  have HA := Lib.hid hCA
  have HM := Lib.hid hm
  have HU := Lib.hid (And.intro uX uY)
  clear hW3 hX hY hu hm uX uY
  simp only [Ins.v]
  rw [hCR, hCA]
  clear hCR hCA
  go_enter Try.func55, Try.ntmps55
  go_wp2_with fail
  rw [HW3.out]
  go_quiet (fail)
  by_cases h0 : op = 0
  · subst h0
    go_wp2
    go_ret
    exact ⟨ret_int HE.out.symm, hG.out.trans (grown_drewN _ _ _)⟩
  by_cases h1 : op = 1
  · subst h1
    go_wp2
    go_ret
    exact ⟨ret_int HE.out.symm, hG.out.trans (grown_drewN _ _ _)⟩
  by_cases h2 : op = 2
  · subst h2
    go_wp2
    go_ret
    exact ⟨ret_int (by rw [HE.out, wrapU, ← IntKind.wrap_u64]; rfl), hG.out.trans (grown_drewN _ _ _)⟩
  by_cases h3 : op = 3
  · subst h3
    go_wp2
    go_ret
    exact ⟨ret_int (by rw [HE.out, wrapU, ← IntKind.wrap_u64]; rfl), hG.out.trans (grown_drewN _ _ _)⟩
  by_cases h4 : op = 4
  · subst h4
    go_wp2
    go_ret
    exact ⟨ret_int (by rw [HE.out, wrapU, ← IntKind.wrap_u64]; rfl), hG.out.trans (grown_drewN _ _ _)⟩
  by_cases h5 : op = 5
  · subst h5
    by_cases hy : Y = 0
    · subst hy
      go_wp2
      go_ret
      exact ⟨ret_int (by rw [HE.out]; rfl), hG.out.trans (grown_drewN _ _ _)⟩
    · have hy0 : (Y == 0) = false := by simpa using hy
      have HR : Hid (X.tmod Y = X % Y) := Int.tmod_eq_emod_of_nonneg HU.out.1.1
      go_wp2
      go_ret
      exact ⟨ret_int (by rw [HE.out]; simp [hy, HR.out]), hG.out.trans (grown_drewN _ _ _)⟩
  by_cases h6 : op = 6
  · subst h6
    by_cases hy : X = Y
    · have hd : (X == Y) = true := by simpa using hy
      have HF : Hid (reckonP ⟨6, ia, b, c, imm⟩ regs args = 1) := by show _ = _; rw [HE.out]; simp [hy]
      clear hy
      go_wp2_with fail
      refine (bit_any _ _).mono ?_
      rintro e w' ⟨rfl, rfl⟩
      go_wp2
      go_ret
      exact ⟨ret_int (by rw [HF.out]), hG.out.trans (grown_drewN _ _ _)⟩
    · have hd : (X == Y) = false := by simpa using hy
      have HF : Hid (reckonP ⟨6, ia, b, c, imm⟩ regs args = 0) := by show _ = _; rw [HE.out]; simp [hy]
      clear hy
      go_wp2_with fail
      refine (bit_any _ _).mono ?_
      rintro e w' ⟨rfl, rfl⟩
      go_wp2
      go_ret
      exact ⟨ret_int (by rw [HF.out]), hG.out.trans (grown_drewN _ _ _)⟩
  by_cases h7 : op = 7
  · subst h7
    by_cases hy : X < Y
    · have hd : decide (X < Y) = true := decide_eq_true hy
      have HF : Hid (reckonP ⟨7, ia, b, c, imm⟩ regs args = 1) := by show _ = _; rw [HE.out]; simp [hy]
      go_wp2_with fail
      refine (bit_any _ _).mono ?_
      rintro e w' ⟨rfl, rfl⟩
      go_wp2
      go_ret
      exact ⟨ret_int (by rw [HF.out]), hG.out.trans (grown_drewN _ _ _)⟩
    · have hd : decide (X < Y) = false := decide_eq_false hy
      have HF : Hid (reckonP ⟨7, ia, b, c, imm⟩ regs args = 0) := by show _ = _; rw [HE.out]; simp [hy]
      go_wp2_with fail
      refine (bit_any _ _).mono ?_
      rintro e w' ⟨rfl, rfl⟩
      go_wp2
      go_ret
      exact ⟨ret_int (by rw [HF.out]), hG.out.trans (grown_drewN _ _ _)⟩
  by_cases h8 : op = 8
  · obtain ⟨hm0, hm4⟩ := HM.out h8
    subst h8
    obtain ⟨m, rfl⟩ : ∃ m : Nat, imm = (m : Int) := ⟨imm.toNat, by omega⟩
    have hm4' : m < 4 := by omega
    have ham : bits .and .u64 (m : Int) 3 = (m : Int) := and3u ⟨m, hm4'⟩
    obtain ⟨Z, hZ⟩ : ∃ Z, args.getD m 0 = Z := ⟨_, rfl⟩
    have k5 : W3.cell? ⟨w.heap.size + 1 + 1, m, none⟩ = some (.int .u64 Z) := by
      rw [← HW3.out]
      have h1 := (Bk.new ((w.alloc (.cells #[.int .i64 8, .int .i64 ia, .int .i64 b, .int .i64 c, .int .u64 m] 43)).alloc (.cells CR 52)) 25 CA).cell m
      rw [← HA.out, u64s_get (by omega), hZ, HA.out] at h1
      simpa using h1
    have HF : Hid (reckonP ⟨8, ia, b, c, m⟩ regs args = Z) := by show _ = _; rw [HE.out]; simpa using hZ
    clear hZ
    go_wp2
    go_ret
    exact ⟨ret_int HF.out.symm, hG.out.trans (grown_drewN _ _ _)⟩
  · have HF : Hid (reckonP ⟨op, ia, b, c, imm⟩ regs args = 0) := by show _ = _; rw [HE.out]; simp [h0, h1, h2, h3, h4, h5, h6, h7, h8]
    go_wp2
    go_ret
    exact ⟨ret_int HF.out.symm, hG.out.trans (grown_drewN _ _ _)⟩
end Go.Proofs.Ytddaeaimimdonaa
