/-
  Chapter 19: the walk of LinkRuns. Printed by gen/lawl3.py.
-/
import Derived.Test.YtddaeaimimdonaaLkH
import Derived.Test.YtddaeaimimdonaaLawL3P
import Derived.Test.YtddaeaimimdonaaModI
import Derived.Test.YtddaeaimimdonaaModH
namespace Go.Proofs.Ytddaeaimimdonaa
open Go.RowKit Go.Maps
set_option linter.unusedVariables false

theorem same_reflL (s : MSt) : SameSt s s := ⟨rfl, fun _ _ => rfl⟩
theorem StIn.butL {w w' : World} {B n sb mb k : Nat} {s : MSt} (h : StIn w B n sb mb s) (hg : w.grownBy w' (some k)) (h1 : k ≠ sb) (h2 : mb ≠ k) : StIn w' B n sb mb s :=
  ⟨Bk.grown h.st hg (by simpa using h1), h.map.kept hg (by simpa using h2), h.roots, h.bs, h.bm⟩
theorem rdU_newL (w : World) (l : List Int) (t : TypeId) {m : Nat} (hm : l.length = m) (h : m ≤ maxLen) : RdU (w.alloc (.cells (u64s l).toArray t)) (w.heap.size + 1) (some ⟨w.heap.size, 0, none⟩) m l := by
  have := Rd.new w (u64s l).toArray t (size := 1) (m := m) (by simp [hm]) h
  simpa using this
theorem elem_u64sL : Try.prog.underlying 26 = some (.slice (Try.prog.elem 26)) := by kernel_rfl
theorem size_u64sL : ∀ W : World, (sizeOf (Try.prog.elem 26)).run Try.prog W = .ok 1 W := fun W => by kernel_rfl
theorem joinL_ok {l : List Prt} {X : List Ins} (h : joinL l = (X, 0)) : X = wholeL l ∧ faultsL l 0 = 0 ∧ 0 < l.length ∧ l.length ≤ 4 ∧ (wholeL l).length ≤ 256 := by
  unfold joinL at h
  split at h
  · injection h with _ h; exact absurd h (by decide)
  rename_i g1
  split at h
  · injection h with _ h; exact absurd h (by decide)
  rename_i g2
  split at h
  · rename_i g3; injection h with _ h; exact absurd h g3
  rename_i g3
  split at h
  · injection h with _ h; exact absurd h (by decide)
  rename_i g4
  injection h with h _
  exact ⟨h.symm, by simpa using g3, by omega, by omega, by omega⟩
theorem joinL_bad {l : List Prt} {X : List Ins} {x : Int} (h : joinL l = (X, x)) (hx : x ≠ 0) : X = [] := by
  unfold joinL at h
  split at h
  · injection h with h _; exact h.symm
  split at h
  · injection h with h _; exact h.symm
  split at h
  · injection h with h _; exact h.symm
  split at h
  · injection h with h _; exact h.symm
  injection h with _ h
  exact absurd h.symm hx
theorem StIn.keptRow {w w' : World} {B n sb mb : Nat} {s : MSt} {base m : Nat} {v : Value} {xs : List Value} (h : StIn w B n sb mb s) (ho : w.ownsRow base 24 1 v m xs) (hg : w.grownBy w' v.ownBlock) : StIn w' B n sb mb s :=
  ⟨Bk.grown h.st hg (Bk.ne_own h.st ho (by decide)), h.map.kept hg (h.map.ne_own ho), h.roots, h.bs, h.bm⟩
def gCells (g0 g1 g2 g3 : Int) : Nat → Array Value
  | 0 => #[.int .u64 0, .int .u64 0, .int .u64 0, .int .u64 0]
  | 1 => #[.int .u64 g0, .int .u64 0, .int .u64 0, .int .u64 0]
  | 2 => #[.int .u64 g0, .int .u64 g1, .int .u64 0, .int .u64 0]
  | 3 => #[.int .u64 g0, .int .u64 g1, .int .u64 g2, .int .u64 0]
  | _ => #[.int .u64 g0, .int .u64 g1, .int .u64 g2, .int .u64 g3]
structure RunsAt (w wr : World) (l : List Prt) (a0 a1 a2 a3 : Int) (pick : List Int) (B Z gl sb mb sa ma : Nat) (s0 : MSt) (Ax : Option Addr) (k : Nat) (st : MSt) (left results : List Int) (S : Nat) (R : MRun) (lA : Option Addr) (lc : Nat) (rA : Option Addr) (rc : Nat) : Prop where
  al : StIn wr B (304 + 320 * k) sa ma st
  ok : SOk st
  ss : StIn wr B 304 sb mb s0
  re : Reached l s0 [a0, a1, a2, a3] pick k st left results S R
  lf : RdU wr w.heap.size lA left.length left
  lu : ∀ x ∈ left, U64 x
  lcap : left.length ≤ lc
  l20 : left.length ≤ 20
  rs : wr.ownsRow Z 24 1 (.slice rA results.length rc) results.length (u64s results)
  ru : ∀ x ∈ results, U64 x
  la : Bk wr gl 36 #[.int .i64 0, .int .u64 (results.getD (k - 1) 0)]
  ar : Bk wr w.heap.size 25 #[.int .u64 a0, .int .u64 a1, .int .u64 a2, .int .u64 a3]
  xr : RdI wr B Ax (wholeL l).length (wholeL l)
  be : Below w.heap.size w wr
theorem RunsAt.more {w wr w' : World} {l : List Prt} {a0 a1 a2 a3 : Int} {pick : List Int} {B Z gl sb mb sa ma : Nat} {s0 : MSt} {Ax : Option Addr} {k : Nat} {st : MSt} {left results : List Int} {S : Nat} {R : MRun} {lA : Option Addr} {lc : Nat} {rA : Option Addr} {rc : Nat} (h : RunsAt w wr l a0 a1 a2 a3 pick B Z gl sb mb sa ma s0 Ax k st left results S R lA lc rA rc) (hB : B ≤ wr.heap.size) (hg : wr.grownBy w' none) : RunsAt w w' l a0 a1 a2 a3 pick B Z gl sb mb sa ma s0 Ax k st left results S R lA lc rA rc :=
  ⟨h.al.more hg, h.ok, h.ss.more hg, h.re, h.lf.grown hg h.be.size (fun k e => by cases e), h.lu, h.lcap, h.l20, h.rs.kept hg (by cases (Value.slice rA results.length rc).ownBlock <;> simp), h.ru, h.la.grown hg (by simp), h.ar.grown hg (by simp), h.xr.grown hg hB (fun k e => by cases e), h.be.grown hg h.be.size (fun k e => by cases e)⟩
/-- A block of four words of the walk's own turns. -/
theorem RunsAt.cellOf {w wr w' : World} {l : List Prt} {a0 a1 a2 a3 : Int} {pick : List Int} {B Z gl sb mb sa ma g : Nat} {s0 : MSt} {Ax : Option Addr} {k : Nat} {st : MSt} {left results : List Int} {S : Nat} {R : MRun} {lA : Option Addr} {lc : Nat} {rA : Option Addr} {rc : Nat} {cs : Array Value} (h : RunsAt w wr l a0 a1 a2 a3 pick B Z gl sb mb sa ma s0 Ax k st left results S R lA lc rA rc) (hg : wr.grownBy w' (some g)) (hk : Bk wr g 25 cs) (hB : B ≤ wr.heap.size) (hBg : B ≤ g) (hsz : sa < Z) (hzg : Z ≤ g ∧ gl < g ∧ sb < Z ∧ w.heap.size < Z) : RunsAt w w' l a0 a1 a2 a3 pick B Z gl sb mb sa ma s0 Ax k st left results S R lA lc rA rc := by
  have e1 : g ≠ sa := by omega
  have e2 : g ≠ sb := by omega
  have e3 : (some g : Option Nat) ≠ some gl := fun e => by have := Option.some.inj e; omega
  have e4 : (some g : Option Nat) ≠ some w.heap.size := fun e => by have := Option.some.inj e; omega
  exact ⟨h.al.butL hg e1 (h.al.map.ne_bk hk), h.ok, h.ss.butL hg e2 (h.ss.map.ne_bk hk), h.re, h.lf.grown hg h.be.size (fun k e => by cases e; omega), h.lu, h.lcap, h.l20, h.rs.kept hg (.inr (hk.ne_own h.rs (by decide))), h.ru, h.la.grown hg e3, h.ar.grown hg e4, h.xr.grown hg hB (fun k e => by cases e; exact hBg), h.be.grown hg h.be.size (fun k e => by cases e; omega)⟩
/-- Another block of the walk's own turns. -/
theorem RunsAt.other {w wr w' : World} {l : List Prt} {a0 a1 a2 a3 : Int} {pick : List Int} {B Z gl sb mb sa ma g : Nat} {s0 : MSt} {Ax : Option Addr} {k : Nat} {st : MSt} {left results : List Int} {S : Nat} {R : MRun} {lA : Option Addr} {lc : Nat} {rA : Option Addr} {rc : Nat} (h : RunsAt w wr l a0 a1 a2 a3 pick B Z gl sb mb sa ma s0 Ax k st left results S R lA lc rA rc) (hB : B ≤ wr.heap.size) (hz : wr.heap.size ≤ g) (hg : wr.grownBy w' (some g)) : RunsAt w w' l a0 a1 a2 a3 pick B Z gl sb mb sa ma s0 Ax k st left results S R lA lc rA rc :=
  h.more hB ⟨hg.os, hg.tape, hg.output, hg.size, fun b hb _ => hg.block b hb (fun e => by have := Option.some.inj e; omega)⟩
set_option maxRecDepth 100000 in
set_option maxHeartbeats 16000000 in
theorem runs_walk (fl : List Ins) (fA : Option Addr) (fn fc : Nat) (l : List Prt) (A : Option Addr) (n c : Nat) (args pick : List Int) (pA : Option Addr) (pn pc : Nat) (w : World) (hfr : RdI w w.heap.size fA fn fl) (hfok : ∀ i ∈ fl, i.Ok) (hfc : fn ≤ fc) (hl : RdP w w.heap.size A n l) (hcap : n ≤ c)
    (ha4 : args.length = 4) (haU : ∀ x ∈ args, U64 x) (hp : RdU w w.heap.size pA pn pick) (hpU : ∀ x ∈ pick, U64 x) (hpc : pn ≤ pc) :
    Calls Try.prog 11 #[.slice fA fn fc, .slice A n c, .agg (u64s args).toArray, .slice pA pn pc] w fun e w' => e = .returned (.bool true) ∧ Below w.heap.size w w' := by
  obtain ⟨i0, hi0, iz0, iz1, iz2⟩ := info_parts info_u64
  obtain ⟨a0, a1, a2, a3, rfl⟩ := four ha4
  obtain rfl : pick.length = pn := hp.u64Len
  have HFr := Lib.hid hfr
  have HFOk := Lib.hid hfok
  have HL := Lib.hid hl
  have HAU := Lib.hid haU
  have HP := Lib.hid hp
  have HPU := Lib.hid hpU
  have hp63 := hp.le
  unfold maxLen at hp63
  clear hfr hfok hl haU hp hpU ha4
  change Calls _ _ #[_, _, .agg #[.int .u64 a0, .int .u64 a1, .int .u64 a2, .int .u64 a3], _] _ _
  go_enter Try.func11, Try.ntmps11
  go_wp2_with fail
  obtain ⟨W1, h1⟩ : ∃ V, w.alloc (.cells #[.int .u64 a0, .int .u64 a1, .int .u64 a2, .int .u64 a3] 25) = V := ⟨_, rfl⟩
  rw [h1]
  have hb1 : Below w.heap.size w W1 := by rw [← h1]; exact (Below.refl _ _).alloc (Nat.le_refl _) _
  have hx1 : Bk W1 w.heap.size 25 #[.int .u64 a0, .int .u64 a1, .int .u64 a2, .int .u64 a3] := by rw [← h1]; exact Bk.new _ _ _
  refine (alive19_any _).mono ?_
  rintro e W2 ⟨rfl, hb2⟩
  have HB2 := Lib.hid (hb1.trans (hb2.mono hb1.size))
  have HX2 := Lib.hid (hx1.below hb2 hx1.lt)
  clear h1 hb1 hx1 hb2
  go_wp2_with fail
  refine (lfew_any l A n c _ ((HL.out.below HB2.out).more HB2.out.size)).mono ?_
  rintro e W3 ⟨rfl, hb3⟩
  have HB3 := Lib.hid (HB2.out.trans (hb3.mono HB2.out.size))
  have HX3 := Lib.hid (HX2.out.below hb3 HX2.out.lt)
  clear hb3
  cases hfew : fewL l
  · go_wp2
    go_ret
    exact ⟨rfl, HB3.out⟩
  by_cases h60 : 60 < fn
  · have h60i : (60 : Int) < (fn : Int) := by omega
    go_wp2
    go_ret
    exact ⟨rfl, HB3.out⟩
  have h60i : ¬ ((60 : Int) < (fn : Int)) := by omega
  by_cases h20 : 20 < pick.length
  · have h20i : (20 : Int) < (pick.length : Int) := by omega
    go_wp2
    go_ret
    exact ⟨rfl, HB3.out⟩
  have h20i : ¬ ((20 : Int) < (pick.length : Int)) := by omega
  obtain ⟨X, x, hj⟩ : ∃ X x, joinL l = (X, x) := ⟨_, _, rfl⟩
  have HJ := Lib.hid hj
  have HL3 := Lib.hid ((HL.out.below HB3.out).more HB3.out.size)
  clear hfew hj
  go_wp2_with fail
  refine (join_is (m := X.length) HJ.out rfl HL3.out).mono ?_
  rintro e W4 ⟨v, rfl, hown, hb4⟩
  obtain ⟨Ax, cx, rfl, hrx⟩ := Rd.of_own hown
  have HB4 := Lib.hid (HB3.out.trans (hb4.mono HB3.out.size))
  have HX4 := Lib.hid (HX3.out.below hb4 HX3.out.lt)
  have HRX4 := Lib.hid (show RdI W4 W4.heap.size Ax X.length X from hrx)
  clear hown hb4 hrx
  by_cases hx : x = 0
  rotate_left
  · have hL := joinL_bad HJ.out hx
    subst hL
    have hxb : (x != 0) = true := by simpa using hx
    simp only [List.length_nil]
    go_wp2
    go_ret
    exact ⟨rfl, HB4.out⟩
  subst hx
  obtain ⟨hX, hf0, hn1, hn4, h256⟩ := joinL_ok HJ.out
  subst hX
  have hps : PartsOk l := ⟨fun k q hq => part_ok (by have := faults_all l 0 hf0 k q hq; simpa using this), fun q hq => (HL.out.all q hq).ok, fun q hq => (HL.out.all q hq).argsOk, fun q hq => (HL.out.all q hq).args4, hn4⟩
  have HPs := Lib.hid hps
  have HLn := Lib.hid HL.out.len
  have HXr := Lib.hid (whole_right hps hn1 h256)
  have HXo := Lib.hid (whole_ok hps h256)
  have hnn : 1 ≤ n ∧ n ≤ 4 := by have := HL.out.len; omega
  clear hps hf0 hn1 hn4 h256
  go_wp2_with fail
  refine (mnew_any _).mono ?_
  rintro e W5 ⟨sb, mb, rfl, hst, hb5⟩
  have HB5 := Lib.hid (HB4.out.trans (hb5.mono HB4.out.size))
  have HX5 := Lib.hid (HX4.out.below hb5 HX4.out.lt)
  have HRX5 := Lib.hid (HRX4.out.below hb5)
  have HS5 := Lib.hid hst
  have hsb : W4.heap.size ≤ sb := hst.bs
  have HZ4 := Lib.hid HX4.out.lt
  have HG5 := Lib.hid hb5.size
  clear hst hb5
  have u0 : W5.cell? ⟨w.heap.size, 0, none⟩ = some (.int .u64 a0) := (HX5.out.cell 0).trans rfl
  have u1 : W5.cell? ⟨w.heap.size, 1, none⟩ = some (.int .u64 a1) := (HX5.out.cell 1).trans rfl
  have u2 : W5.cell? ⟨w.heap.size, 2, none⟩ = some (.int .u64 a2) := (HX5.out.cell 2).trans rfl
  have u3 : W5.cell? ⟨w.heap.size, 3, none⟩ = some (.int .u64 a3) := (HX5.out.cell 3).trans rfl
  go_wp2_with fail
  obtain ⟨W6, h6⟩ : ∃ V, W5.alloc (.cells #[.int .u64 61, .int .u64 62, .int .u64 63, .int .u64 64] 24) = V := ⟨_, rfl⟩
  have hg6 : W5.grownBy W6 none := by rw [← h6]; exact World.grownBy_alloc _ _ _
  have hrp : RdU W6 W6.heap.size (some ⟨W5.heap.size, 0, none⟩) 4 [61, 62, 63, 64] := by rw [← h6]; exact (rdU_newL W5 [61, 62, 63, 64] _ rfl (by simp [maxLen])).more (by simp)
  rw [h6]
  have HB6 := Lib.hid (HB5.out.grown hg6 HB5.out.size (fun k e => by cases e))
  refine (run_any W4.heap.size 0 sb mb emptyS fl fA fn fc [a0, a1, a2, a3] 300 100 [61, 62, 63, 64] _ _ _ (HS5.out.more hg6) emptyS_ok ((HFr.out.below HB6.out).more HB6.out.size) HFOk.out rfl HAU.out (by decide) (by decide) hrp (u64_lits rfl) (by decide) (by decide) (by decide)).mono ?_
  rintro e W7 ⟨⟨nv, mb2, rfl, hst, hown, _, _⟩, hok7, hg7⟩
  obtain ⟨s0, hs0⟩ : ∃ s, afterP emptyS (runP emptyS fl [a0, a1, a2, a3] 300 100 [61, 62, 63, 64]) = s := ⟨_, rfl⟩
  rw [hs0] at hst hok7
  have hz4 := HZ4.out
  have hg5 := HG5.out
  have HS7 : Hid (StIn W7 W4.heap.size 304 sb mb2 s0) := hst
  have HOK := Lib.hid hok7
  have HB7 := Lib.hid (HB6.out.grown hg7 HB6.out.size (fun k e => by cases e; omega))
  have HX7 := Lib.hid ((HX5.out.grown hg6 (by simp)).grown hg7 (fun e => by have := Option.some.inj e; omega))
  have HRX7 := Lib.hid ((HRX5.out.grown hg6 hg5 (fun k e => by cases e)).grown hg7 (Nat.le_trans hg5 hg6.size) (fun k e => by cases e; exact hsb))
  have HG7 := Lib.hid (Nat.le_trans (Nat.le_trans hg5 hg6.size) hg7.size)
  clear h6 hg6 hrp hst hown hok7 hg7 hs0 u0 u1 u2 u3
  go_wp2_with fail
  refine (mclone_any W4.heap.size 304 sb mb2 s0 _ HS7.out).mono ?_
  rintro e W8 ⟨sa, ma, rfl, hsa, hb8⟩
  have HA8 := Lib.hid hsa
  have HS8 := Lib.hid (HS7.out.more (bk_grown_below hb8))
  have HB8 := Lib.hid (HB7.out.trans (hb8.mono HB7.out.size))
  have HX8 := Lib.hid (HX7.out.below hb8 HX7.out.lt)
  have HRX8 := Lib.hid (HRX7.out.below (hb8.mono HG7.out))
  have hsab : sb < sa := Nat.lt_of_lt_of_le HS7.out.st.lt hsa.bs
  have HG8 := Lib.hid (Nat.le_trans HG7.out hb8.size)
  clear hsa hb8
  go_upto_region 14 with fail
  obtain ⟨W9, h9⟩ : ∃ V, W8.alloc (.cells #[] 24) = V := ⟨_, rfl⟩
  have hg9 : W8.grownBy W9 none := by rw [← h9]; exact World.grownBy_alloc _ _ _
  have hrs : W9.ownsRow W8.heap.size 24 1 (.slice (some ⟨W8.heap.size, 0, none⟩) 0 0) 0 (u64s []) := by rw [← h9]; exact own_new W8 #[] _ (size := 1) (m := 0) rfl (by simp [maxLen]) (Nat.le_refl _)
  rw [h9]
  have z9 : W9.heap.size = W8.heap.size + 1 := by rw [← h9]; simp
  obtain ⟨W10, h10⟩ : ∃ V, W9.alloc (.cells #[.int .i64 0, .int .u64 0] 36) = V := ⟨_, rfl⟩
  have hg10 : W9.grownBy W10 none := by rw [← h10]; exact World.grownBy_alloc _ _ _
  have hla : Bk W10 W9.heap.size 36 #[.int .i64 0, .int .u64 0] := by rw [← h10]; exact Bk.new _ _ _
  rw [h10]
  obtain ⟨Z, hZ⟩ : ∃ Z, W8.heap.size = Z := ⟨_, rfl⟩
  obtain ⟨gl, hgl⟩ : ∃ g, Z + 1 = g := ⟨_, rfl⟩
  have hg810 := hg9.trans hg10
  have hz10 : W10.heap.size = gl + 1 := by rw [← h10, ← hgl, ← hZ, ← z9]; simp
  have HRun : Hid (RunsAt w W10 l a0 a1 a2 a3 pick W4.heap.size Z gl sb mb2 sa ma s0 Ax 0 s0 pick [] 0 (startP s0 pick) pA pc (some ⟨Z, 0, none⟩) 0) := by
    refine ⟨(⟨HA8.out.st, HA8.out.map, HA8.out.roots, Nat.le_trans HG7.out HA8.out.bs, Nat.le_trans HG7.out HA8.out.bm⟩ : StIn W8 W4.heap.size 304 sa ma s0).more hg810, HOK.out, HS8.out.more hg810, reach0 l s0 _ pick, (HP.out.below HB8.out).grown hg810 HB8.out.size (fun k e => by cases e), HPU.out, hpc, by omega, ?_, (fun x hx => by cases hx), ?_, HX8.out.grown hg810 (by simp), HRX8.out.grown hg810 HG8.out (fun k e => by cases e), HB8.out.grown hg810 HB8.out.size (fun k e => by cases e)⟩
    · rw [← hZ]; exact hrs.kept hg10 (.inr (by simp [Value.ownBlock]))
    · rw [← hgl, ← hZ, ← z9]; exact hla
  rw [hZ, hgl]
  have hsaz : sa < Z := by rw [← hZ]; exact HA8.out.st.lt
  have HB10 : Hid (W4.heap.size ≤ W10.heap.size) := Nat.le_trans HG8.out hg810.size
  have hBz : W4.heap.size ≤ Z := by rw [← hZ]; exact HG8.out
  have hwz : w.heap.size < Z := by rw [← hZ]; exact HX8.out.lt
  have HZ10 : Hid (gl < W10.heap.size) := by show _ < _; omega
  clear h9 hg9 hrs z9 h10 hg10 hla hZ hz10 hg810
  go_wp2
  go_loopw [61, 12, 13, 14, 17, 18, 19, 20, 21] (fun i al lf rs _a _b _c _d _e wr => ∃ (k ma : Nat) (st : MSt) (left results : List Int) (S : Nat) (R : MRun) (lA : Option Addr) (lc : Nat) (rA : Option Addr) (rc : Nat), (k ≤ n ∧ i = .int .i64 k) ∧ al = .pointer (some ⟨sa, 0, none⟩) ∧ lf = .slice lA left.length lc ∧ rs = .slice rA results.length rc ∧ Hid (RunsAt w wr l a0 a1 a2 a3 pick W4.heap.size Z gl sb mb2 sa ma s0 Ax k st left results S R lA lc rA rc) ∧ Hid (gl < wr.heap.size)) (fun i _ _ _ _ _ _ _ _ _ => n - (intOf i).toNat)
  case atStart => exact ⟨0, ma, s0, pick, [], 0, _, pA, pc, some ⟨Z, 0, none⟩, 0, ⟨by omega, rfl⟩, rfl, rfl, rfl, HRun, HZ10⟩
  case round =>
    obtain ⟨k, ma, st, left, results, S, R, lA, lc, rA, rc, ⟨hk, rfl⟩, rfl, rfl, rfl, HAt, HZr⟩ := hrel
    have hZr := HZr.out
    by_cases hlt : k < n
    · obtain ⟨b, o_, qA, qn, qc, code, b0, b1, b2, b3, rfl, hbB, hlk, hin, c0, c1, c2, c3, c4, c5, c6, c7, c8⟩ := (HL.out.below HAt.out.be).at_ hlt
      obtain ⟨kd0, vl0⟩ := b0
      obtain ⟨kd1, vl1⟩ := b1
      obtain ⟨kd2, vl2⟩ := b2
      obtain ⟨kd3, vl3⟩ := b3
      simp only at c1 c2 c3 c4 c5 c6 c7 c8
      have HIn := Lib.hid hin
      have HLk := Lib.hid hlk
      have hpk := HPs.out.ok k _ hlk
      have HPk := Lib.hid hpk
      have hreslen : k ≤ results.length ∧ results.length ≤ k := by have := HAt.out.re.len; omega
      obtain ⟨g0, hg0⟩ : ∃ g, givenL [a0, a1, a2, a3] results ⟨kd0, vl0⟩ = g := ⟨_, rfl⟩
      obtain ⟨g1, hg1⟩ : ∃ g, givenL [a0, a1, a2, a3] results ⟨kd1, vl1⟩ = g := ⟨_, rfl⟩
      obtain ⟨g2, hg2⟩ : ∃ g, givenL [a0, a1, a2, a3] results ⟨kd2, vl2⟩ = g := ⟨_, rfl⟩
      obtain ⟨g3, hg3⟩ : ∃ g, givenL [a0, a1, a2, a3] results ⟨kd3, vl3⟩ = g := ⟨_, rfl⟩
      have HG0 := Lib.hid hg0
      have HG1 := Lib.hid hg1
      have HG2 := Lib.hid hg2
      have HG3 := Lib.hid hg3
      clear hlk hin hpk hg0 hg1 hg2 hg3
      go_upto_region 18 with fail
      obtain ⟨V1, h1⟩ : ∃ V, wr.alloc (.cells #[.slice qA qn qc, .int .i64 kd0, .int .u64 vl0, .int .i64 kd1, .int .u64 vl1, .int .i64 kd2, .int .u64 vl2, .int .i64 kd3, .int .u64 vl3] 80) = V := ⟨_, rfl⟩
      rw [h1]
      obtain ⟨V2, h2⟩ : ∃ V, V1.alloc (.cells #[.int .u64 0, .int .u64 0, .int .u64 0, .int .u64 0] 25) = V := ⟨_, rfl⟩
      rw [h2]
      have hg12 : wr.grownBy V2 none := by rw [← h2, ← h1]; exact (World.grownBy_alloc _ _ _).trans (World.grownBy_alloc _ _ _)
      obtain ⟨gp, hgp⟩ : ∃ g, wr.heap.size = g := ⟨_, rfl⟩
      obtain ⟨gv, hgv⟩ : ∃ g, gp + 1 = g := ⟨_, rfl⟩
      have z1 : V1.heap.size = gv := by rw [← h1, ← hgv, ← hgp]; simp
      have z2 : V2.heap.size = gv + 1 := by rw [← h2, ← z1]; simp
      have HPt : Hid (Bk V2 gp 80 #[.slice qA qn qc, .int .i64 kd0, .int .u64 vl0, .int .i64 kd1, .int .u64 vl1, .int .i64 kd2, .int .u64 vl2, .int .i64 kd3, .int .u64 vl3]) := by show Bk _ _ _ _; rw [← h2, ← h1, ← hgp]; exact (Bk.new _ _ _).alloc _
      have HGv : Hid (Bk V2 gv 25 #[.int .u64 0, .int .u64 0, .int .u64 0, .int .u64 0]) := by show Bk _ _ _ _; rw [← h2, ← z1]; exact Bk.new _ _ _
      have hBw : W4.heap.size ≤ wr.heap.size := by omega
      have HAt2 := Lib.hid (HAt.out.more hBw hg12)
      rw [hgp, hgv]
      have HZ2 : Hid (gv + 1 ≤ V2.heap.size ∧ gl < gp ∧ W4.heap.size ≤ gp ∧ Z ≤ gp ∧ gp + 1 = gv) := ⟨by omega, by omega, by omega, by omega, hgv⟩
      clear h1 h2 hg12 hgp z1 z2 c0 c1 c2 c3 c4 c5 c6 c7 c8 hgv hBw
      have x0 : V2.cell? ⟨gp, 0, none⟩ = some (.slice qA qn qc) := (HPt.out.cell 0).trans rfl
      have x1 : V2.cell? ⟨gp, 1, none⟩ = some (.int .i64 kd0) := (HPt.out.cell 1).trans rfl
      have x2 : V2.cell? ⟨gp, 2, none⟩ = some (.int .u64 vl0) := (HPt.out.cell 2).trans rfl
      have x3 : V2.cell? ⟨gp, 3, none⟩ = some (.int .i64 kd1) := (HPt.out.cell 3).trans rfl
      have x4 : V2.cell? ⟨gp, 4, none⟩ = some (.int .u64 vl1) := (HPt.out.cell 4).trans rfl
      have x5 : V2.cell? ⟨gp, 5, none⟩ = some (.int .i64 kd2) := (HPt.out.cell 5).trans rfl
      have x6 : V2.cell? ⟨gp, 6, none⟩ = some (.int .u64 vl2) := (HPt.out.cell 6).trans rfl
      have x7 : V2.cell? ⟨gp, 7, none⟩ = some (.int .i64 kd3) := (HPt.out.cell 7).trans rfl
      have x8 : V2.cell? ⟨gp, 8, none⟩ = some (.int .u64 vl3) := (HPt.out.cell 8).trans rfl
      have hx0 : ∀ w, (Instr.index 78 (.agg #[.int .i64 kd0, .int .u64 vl0, .int .i64 kd1, .int .u64 vl1, .int .i64 kd2, .int .u64 vl2, .int .i64 kd3, .int .u64 vl3]) (.int .i64 0)).run Try.prog w = .ok (.agg #[.int .i64 kd0, .int .u64 vl0]) w := fun _ => by kernel_rfl
      have hx1 : ∀ w, (Instr.index 78 (.agg #[.int .i64 kd0, .int .u64 vl0, .int .i64 kd1, .int .u64 vl1, .int .i64 kd2, .int .u64 vl2, .int .i64 kd3, .int .u64 vl3]) (.int .i64 1)).run Try.prog w = .ok (.agg #[.int .i64 kd1, .int .u64 vl1]) w := fun _ => by kernel_rfl
      have hx2 : ∀ w, (Instr.index 78 (.agg #[.int .i64 kd0, .int .u64 vl0, .int .i64 kd1, .int .u64 vl1, .int .i64 kd2, .int .u64 vl2, .int .i64 kd3, .int .u64 vl3]) (.int .i64 2)).run Try.prog w = .ok (.agg #[.int .i64 kd2, .int .u64 vl2]) w := fun _ => by kernel_rfl
      have hx3 : ∀ w, (Instr.index 78 (.agg #[.int .i64 kd0, .int .u64 vl0, .int .i64 kd1, .int .u64 vl1, .int .i64 kd2, .int .u64 vl2, .int .i64 kd3, .int .u64 vl3]) (.int .i64 3)).run Try.prog w = .ok (.agg #[.int .i64 kd3, .int .u64 vl3]) w := fun _ => by kernel_rfl
      go_wp2
      go_loopw [68, 20, 19] (fun i _a _b wq => ∃ q : Nat, (q ≤ 4 ∧ i = .int .i64 q) ∧ Hid (Bk wq gv 25 (gCells g0 g1 g2 g3 q)) ∧ Hid (V2.grownBy wq (some gv))) (fun i _ _ _ => 4 - (intOf i).toNat)
      case atStart => exact ⟨0, ⟨by omega, rfl⟩, HGv, World.grownBy.refl _ _⟩
      case round =>
        obtain ⟨q, ⟨hq, rfl⟩, HGq, HVq⟩ := hrel
        have hq5 : q = 0 ∨ q = 1 ∨ q = 2 ∨ q = 3 ∨ q = 4 := by omega
        clear hq
        obtain ⟨hz1, hz2, hz3, hz4, hz5⟩ := HZ2.out
        have hgvl := HGq.out.lt
        rcases hq5 with rfl | rfl | rfl | rfl | rfl
        · have d0 : wr.cell? ⟨gv, 0, none⟩ = some (.int .u64 0) := (HGq.out.cell 0).trans rfl
          have f0 := HGq.out.frozen 0
          have hbd := of_decide_eq_false (HPk.out.args ⟨kd0, vl0⟩ (by simp))
          have hv0 := (HIn.out.argsOk ⟨kd0, vl0⟩ (by simp)).val
          by_cases k1 : kd0 = 1
          · have hv1 := hv0.1
            simp only at hv1 hbd
            obtain ⟨v, rfl⟩ : ∃ v : Nat, vl0 = (v : Int) := ⟨vl0.toNat, by omega⟩
            have hvk : v < k := by omega
            have hvr : v < results.length := by omega
            have hvi : (v : Int) < (results.length : Int) := by omega
            have hg : g0 = results.getD v 0 := by rw [← HG0.out]; unfold givenL; rw [if_pos k1]; rfl
            have e1 : (kd0 == 1) = true := by simpa using k1
            have e2 : (kd0 == 2) = false := by simp [k1]
            obtain ⟨rA', rc', er, hrd⟩ := Rd.of_own HAt2.out.rs
            injection er with er1 er2 er3
            subst er1
            obtain ⟨rb, ro, rfl, hrb, hrc⟩ := hrd.at_ (by omega)
            have hne : rb ≠ gv := by
              have := HAt2.out.rs.lt rb rfl
              intro e
              obtain ⟨cc, fz, hh⟩ := own_cell HAt2.out.rs (g := rb) rfl
              have hb := HGv.out
              unfold Bk at hb
              rw [e, hb] at hh
              injection hh with hh
              injection hh with _ hh _
              exact absurd hh (by decide)
            have hres : wr.cell? ⟨rb, ro + v, none⟩ = some (.int .u64 g0) := HVq.out.cell (a := ⟨rb, ro + v, none⟩) (hrc v _ (by rw [hg]; simp [u64s, List.getElem?_map, List.getElem?_eq_getElem hvr])) (fun e => hne (Option.some.inj e))
            have HK := Lib.hid k1
            have hr1 : rb < wr.heap.size := Nat.lt_of_lt_of_le hrb HVq.out.size
            have hr2 : rb ≠ wr.heap.size := Nat.ne_of_lt hr1
            have hr3 : wr.heap.size ≠ rb := Nat.ne_of_gt hr1
            have hr4 : gv ≠ rb := fun e => hne e.symm
            have hr5 : gv ≠ wr.heap.size := Nat.ne_of_lt hgvl
            have hr6 : wr.heap.size ≠ gv := Nat.ne_of_gt hgvl
            have hr1 : rb < wr.heap.size := Nat.lt_of_lt_of_le hrb HVq.out.size
            have hr2 : rb ≠ wr.heap.size := Nat.ne_of_lt hr1
            have hr3 : wr.heap.size ≠ rb := Nat.ne_of_gt hr1
            have hr4 : gv ≠ rb := fun e => hne e.symm
            have hr5 : gv ≠ wr.heap.size := Nat.ne_of_lt hgvl
            have hr6 : wr.heap.size ≠ gv := Nat.ne_of_gt hgvl
            have hr1 : rb < wr.heap.size := Nat.lt_of_lt_of_le hrb HVq.out.size
            have hr2 : rb ≠ wr.heap.size := Nat.ne_of_lt hr1
            have hr3 : wr.heap.size ≠ rb := Nat.ne_of_gt hr1
            have hr4 : gv ≠ rb := fun e => hne e.symm
            have hr5 : gv ≠ wr.heap.size := Nat.ne_of_lt hgvl
            have hr6 : wr.heap.size ≠ gv := Nat.ne_of_gt hgvl
            have hr1 : rb < wr.heap.size := Nat.lt_of_lt_of_le hrb HVq.out.size
            have hr2 : rb ≠ wr.heap.size := Nat.ne_of_lt hr1
            have hr3 : wr.heap.size ≠ rb := Nat.ne_of_gt hr1
            have hr4 : gv ≠ rb := fun e => hne e.symm
            have hr5 : gv ≠ wr.heap.size := Nat.ne_of_lt hgvl
            have hr6 : wr.heap.size ≠ gv := Nat.ne_of_gt hgvl
            clear k1 hg er2 er3 hrd hrb hrc hbd hv0
            go_wp2
            obtain ⟨V, hV⟩ : ∃ V, ((wr.setCell ⟨gv, 0, none⟩ (.int .u64 (v : Int))).setCell ⟨gv, 0, none⟩ (.int .u64 g0)).alloc (.cells #[.int .i64 kd0, .int .u64 (v : Int)] 77) = V := ⟨_, rfl⟩
            rw [hV]
            have HGn : Hid (Bk V gv 25 (gCells g0 g1 g2 g3 1)) := by
              show Bk _ _ _ _
              rw [← hV]
              have h := ((HGq.out.set_ 0 (.int .u64 (v : Int))).set_ 0 (.int .u64 g0)).alloc (.cells #[.int .i64 kd0, .int .u64 (v : Int)] 77)
              simpa [gCells] using h
            have HVn : Hid (V2.grownBy V (some gv)) := by
              show World.grownBy _ _ _
              rw [← hV]
              exact HVq.out.trans (((grown_set _ _ _ _).trans (grown_set _ _ _ _)).trans ((World.grownBy_alloc _ _ none).but _))
            clear hV 
            go_roundw
            case rel => exact ⟨1, ⟨by omega, by go_num⟩, HGn, HVn⟩
            case measure => simp [intOf]
          · by_cases k2 : kd0 = 2
            · have hv1 := hv0.1
              simp only at hv1 hbd
              obtain ⟨v, rfl⟩ : ∃ v : Nat, vl0 = (v : Int) := ⟨vl0.toNat, by omega⟩
              have hv4 : v < 4 := by omega
              have hvi : (v : Int) < 4 := by omega
              have hg : g0 = [a0, a1, a2, a3].getD v 0 := by rw [← HG0.out]; unfold givenL; rw [if_neg k1, if_pos k2]; rfl
              have e1 : (kd0 == 1) = false := by simpa using k1
              have e2 : (kd0 == 2) = true := by simpa using k2
              have hwl := HAt2.out.ar.lt
              have hwr : w.heap.size < wr.heap.size := Nat.lt_of_lt_of_le hwl HVq.out.size
              have hwg : w.heap.size ≠ gv := by omega
              have hcell : wr.cell? ⟨w.heap.size, v, none⟩ = some (.int .u64 g0) := by
                rw [(HAt2.out.ar.grown HVq.out (fun e => hwg (Option.some.inj e).symm)).cell, hg]
                have : v = 0 ∨ v = 1 ∨ v = 2 ∨ v = 3 := by omega
                rcases this with rfl | rfl | rfl | rfl <;> rfl
              have hr2 : w.heap.size ≠ wr.heap.size := Nat.ne_of_lt hwr
              have hr3 : wr.heap.size ≠ w.heap.size := Nat.ne_of_gt hwr
              have hr4 : gv ≠ w.heap.size := fun e => hwg e.symm
              have hr5 : gv ≠ wr.heap.size := Nat.ne_of_lt hgvl
              have hr6 : wr.heap.size ≠ gv := Nat.ne_of_gt hgvl
              clear k1 k2 hg hbd hv0
              go_wp2
              obtain ⟨V, hV⟩ : ∃ V, ((wr.setCell ⟨gv, 0, none⟩ (.int .u64 (v : Int))).setCell ⟨gv, 0, none⟩ (.int .u64 g0)).alloc (.cells #[.int .i64 kd0, .int .u64 (v : Int)] 77) = V := ⟨_, rfl⟩
              rw [hV]
              have HGn : Hid (Bk V gv 25 (gCells g0 g1 g2 g3 1)) := by
                show Bk _ _ _ _
                rw [← hV]
                have h := ((HGq.out.set_ 0 (.int .u64 (v : Int))).set_ 0 (.int .u64 g0)).alloc (.cells #[.int .i64 kd0, .int .u64 (v : Int)] 77)
                simpa [gCells] using h
              have HVn : Hid (V2.grownBy V (some gv)) := by
                show World.grownBy _ _ _
                rw [← hV]
                exact HVq.out.trans (((grown_set _ _ _ _).trans (grown_set _ _ _ _)).trans ((World.grownBy_alloc _ _ none).but _))
              clear hV
              go_roundw
              case rel => exact ⟨1, ⟨by omega, by go_num⟩, HGn, HVn⟩
              case measure => simp [intOf]
            · have hg : vl0 = g0 := by rw [← HG0.out]; unfold givenL; rw [if_neg k1, if_neg k2]
              have e1 : (kd0 == 1) = false := by simpa using k1
              have e2 : (kd0 == 2) = false := by simpa using k2
              subst hg
              have hr5 : gv ≠ wr.heap.size := Nat.ne_of_lt hgvl
              have hr6 : wr.heap.size ≠ gv := Nat.ne_of_gt hgvl
              clear k1 k2 hbd hv0
              go_wp2
              obtain ⟨V, hV⟩ : ∃ V, (wr.setCell ⟨gv, 0, none⟩ (.int .u64 vl0)).alloc (.cells #[.int .i64 kd0, .int .u64 vl0] 77) = V := ⟨_, rfl⟩
              rw [hV]
              have HGn : Hid (Bk V gv 25 (gCells vl0 g1 g2 g3 1)) := by
                show Bk _ _ _ _
                rw [← hV]
                have h := (HGq.out.set_ 0 (.int .u64 vl0)).alloc (.cells #[.int .i64 kd0, .int .u64 vl0] 77)
                simpa [gCells] using h
              have HVn : Hid (V2.grownBy V (some gv)) := by
                show World.grownBy _ _ _
                rw [← hV]
                exact HVq.out.trans ((grown_set _ _ _ _).trans ((World.grownBy_alloc _ _ none).but _))
              clear hV
              go_roundw
              case rel => exact ⟨1, ⟨by omega, by go_num⟩, HGn, HVn⟩
              case measure => simp [intOf]
        · have d0 : wr.cell? ⟨gv, 1, none⟩ = some (.int .u64 0) := (HGq.out.cell 1).trans rfl
          have f0 := HGq.out.frozen 1
          have hbd := of_decide_eq_false (HPk.out.args ⟨kd1, vl1⟩ (by simp))
          have hv0 := (HIn.out.argsOk ⟨kd1, vl1⟩ (by simp)).val
          by_cases k1 : kd1 = 1
          · have hv1 := hv0.1
            simp only at hv1 hbd
            obtain ⟨v, rfl⟩ : ∃ v : Nat, vl1 = (v : Int) := ⟨vl1.toNat, by omega⟩
            have hvk : v < k := by omega
            have hvr : v < results.length := by omega
            have hvi : (v : Int) < (results.length : Int) := by omega
            have hg : g1 = results.getD v 0 := by rw [← HG1.out]; unfold givenL; rw [if_pos k1]; rfl
            have e1 : (kd1 == 1) = true := by simpa using k1
            have e2 : (kd1 == 2) = false := by simp [k1]
            obtain ⟨rA', rc', er, hrd⟩ := Rd.of_own HAt2.out.rs
            injection er with er1 er2 er3
            subst er1
            obtain ⟨rb, ro, rfl, hrb, hrc⟩ := hrd.at_ (by omega)
            have hne : rb ≠ gv := by
              have := HAt2.out.rs.lt rb rfl
              intro e
              obtain ⟨cc, fz, hh⟩ := own_cell HAt2.out.rs (g := rb) rfl
              have hb := HGv.out
              unfold Bk at hb
              rw [e, hb] at hh
              injection hh with hh
              injection hh with _ hh _
              exact absurd hh (by decide)
            have hres : wr.cell? ⟨rb, ro + v, none⟩ = some (.int .u64 g1) := HVq.out.cell (a := ⟨rb, ro + v, none⟩) (hrc v _ (by rw [hg]; simp [u64s, List.getElem?_map, List.getElem?_eq_getElem hvr])) (fun e => hne (Option.some.inj e))
            have HK := Lib.hid k1
            have hr1 : rb < wr.heap.size := Nat.lt_of_lt_of_le hrb HVq.out.size
            have hr2 : rb ≠ wr.heap.size := Nat.ne_of_lt hr1
            have hr3 : wr.heap.size ≠ rb := Nat.ne_of_gt hr1
            have hr4 : gv ≠ rb := fun e => hne e.symm
            have hr5 : gv ≠ wr.heap.size := Nat.ne_of_lt hgvl
            have hr6 : wr.heap.size ≠ gv := Nat.ne_of_gt hgvl
            have hr1 : rb < wr.heap.size := Nat.lt_of_lt_of_le hrb HVq.out.size
            have hr2 : rb ≠ wr.heap.size := Nat.ne_of_lt hr1
            have hr3 : wr.heap.size ≠ rb := Nat.ne_of_gt hr1
            have hr4 : gv ≠ rb := fun e => hne e.symm
            have hr5 : gv ≠ wr.heap.size := Nat.ne_of_lt hgvl
            have hr6 : wr.heap.size ≠ gv := Nat.ne_of_gt hgvl
            have hr1 : rb < wr.heap.size := Nat.lt_of_lt_of_le hrb HVq.out.size
            have hr2 : rb ≠ wr.heap.size := Nat.ne_of_lt hr1
            have hr3 : wr.heap.size ≠ rb := Nat.ne_of_gt hr1
            have hr4 : gv ≠ rb := fun e => hne e.symm
            have hr5 : gv ≠ wr.heap.size := Nat.ne_of_lt hgvl
            have hr6 : wr.heap.size ≠ gv := Nat.ne_of_gt hgvl
            have hr1 : rb < wr.heap.size := Nat.lt_of_lt_of_le hrb HVq.out.size
            have hr2 : rb ≠ wr.heap.size := Nat.ne_of_lt hr1
            have hr3 : wr.heap.size ≠ rb := Nat.ne_of_gt hr1
            have hr4 : gv ≠ rb := fun e => hne e.symm
            have hr5 : gv ≠ wr.heap.size := Nat.ne_of_lt hgvl
            have hr6 : wr.heap.size ≠ gv := Nat.ne_of_gt hgvl
            clear k1 hg er2 er3 hrd hrb hrc hbd hv0
            go_wp2
            obtain ⟨V, hV⟩ : ∃ V, ((wr.setCell ⟨gv, 1, none⟩ (.int .u64 (v : Int))).setCell ⟨gv, 1, none⟩ (.int .u64 g1)).alloc (.cells #[.int .i64 kd1, .int .u64 (v : Int)] 77) = V := ⟨_, rfl⟩
            rw [hV]
            have HGn : Hid (Bk V gv 25 (gCells g0 g1 g2 g3 2)) := by
              show Bk _ _ _ _
              rw [← hV]
              have h := ((HGq.out.set_ 1 (.int .u64 (v : Int))).set_ 1 (.int .u64 g1)).alloc (.cells #[.int .i64 kd1, .int .u64 (v : Int)] 77)
              simpa [gCells] using h
            have HVn : Hid (V2.grownBy V (some gv)) := by
              show World.grownBy _ _ _
              rw [← hV]
              exact HVq.out.trans (((grown_set _ _ _ _).trans (grown_set _ _ _ _)).trans ((World.grownBy_alloc _ _ none).but _))
            clear hV 
            go_roundw
            case rel => exact ⟨2, ⟨by omega, by go_num⟩, HGn, HVn⟩
            case measure => simp [intOf]
          · by_cases k2 : kd1 = 2
            · have hv1 := hv0.1
              simp only at hv1 hbd
              obtain ⟨v, rfl⟩ : ∃ v : Nat, vl1 = (v : Int) := ⟨vl1.toNat, by omega⟩
              have hv4 : v < 4 := by omega
              have hvi : (v : Int) < 4 := by omega
              have hg : g1 = [a0, a1, a2, a3].getD v 0 := by rw [← HG1.out]; unfold givenL; rw [if_neg k1, if_pos k2]; rfl
              have e1 : (kd1 == 1) = false := by simpa using k1
              have e2 : (kd1 == 2) = true := by simpa using k2
              have hwl := HAt2.out.ar.lt
              have hwr : w.heap.size < wr.heap.size := Nat.lt_of_lt_of_le hwl HVq.out.size
              have hwg : w.heap.size ≠ gv := by omega
              have hcell : wr.cell? ⟨w.heap.size, v, none⟩ = some (.int .u64 g1) := by
                rw [(HAt2.out.ar.grown HVq.out (fun e => hwg (Option.some.inj e).symm)).cell, hg]
                have : v = 0 ∨ v = 1 ∨ v = 2 ∨ v = 3 := by omega
                rcases this with rfl | rfl | rfl | rfl <;> rfl
              have hr2 : w.heap.size ≠ wr.heap.size := Nat.ne_of_lt hwr
              have hr3 : wr.heap.size ≠ w.heap.size := Nat.ne_of_gt hwr
              have hr4 : gv ≠ w.heap.size := fun e => hwg e.symm
              have hr5 : gv ≠ wr.heap.size := Nat.ne_of_lt hgvl
              have hr6 : wr.heap.size ≠ gv := Nat.ne_of_gt hgvl
              clear k1 k2 hg hbd hv0
              go_wp2
              obtain ⟨V, hV⟩ : ∃ V, ((wr.setCell ⟨gv, 1, none⟩ (.int .u64 (v : Int))).setCell ⟨gv, 1, none⟩ (.int .u64 g1)).alloc (.cells #[.int .i64 kd1, .int .u64 (v : Int)] 77) = V := ⟨_, rfl⟩
              rw [hV]
              have HGn : Hid (Bk V gv 25 (gCells g0 g1 g2 g3 2)) := by
                show Bk _ _ _ _
                rw [← hV]
                have h := ((HGq.out.set_ 1 (.int .u64 (v : Int))).set_ 1 (.int .u64 g1)).alloc (.cells #[.int .i64 kd1, .int .u64 (v : Int)] 77)
                simpa [gCells] using h
              have HVn : Hid (V2.grownBy V (some gv)) := by
                show World.grownBy _ _ _
                rw [← hV]
                exact HVq.out.trans (((grown_set _ _ _ _).trans (grown_set _ _ _ _)).trans ((World.grownBy_alloc _ _ none).but _))
              clear hV
              go_roundw
              case rel => exact ⟨2, ⟨by omega, by go_num⟩, HGn, HVn⟩
              case measure => simp [intOf]
            · have hg : vl1 = g1 := by rw [← HG1.out]; unfold givenL; rw [if_neg k1, if_neg k2]
              have e1 : (kd1 == 1) = false := by simpa using k1
              have e2 : (kd1 == 2) = false := by simpa using k2
              subst hg
              have hr5 : gv ≠ wr.heap.size := Nat.ne_of_lt hgvl
              have hr6 : wr.heap.size ≠ gv := Nat.ne_of_gt hgvl
              clear k1 k2 hbd hv0
              go_wp2
              obtain ⟨V, hV⟩ : ∃ V, (wr.setCell ⟨gv, 1, none⟩ (.int .u64 vl1)).alloc (.cells #[.int .i64 kd1, .int .u64 vl1] 77) = V := ⟨_, rfl⟩
              rw [hV]
              have HGn : Hid (Bk V gv 25 (gCells g0 vl1 g2 g3 2)) := by
                show Bk _ _ _ _
                rw [← hV]
                have h := (HGq.out.set_ 1 (.int .u64 vl1)).alloc (.cells #[.int .i64 kd1, .int .u64 vl1] 77)
                simpa [gCells] using h
              have HVn : Hid (V2.grownBy V (some gv)) := by
                show World.grownBy _ _ _
                rw [← hV]
                exact HVq.out.trans ((grown_set _ _ _ _).trans ((World.grownBy_alloc _ _ none).but _))
              clear hV
              go_roundw
              case rel => exact ⟨2, ⟨by omega, by go_num⟩, HGn, HVn⟩
              case measure => simp [intOf]
        · have d0 : wr.cell? ⟨gv, 2, none⟩ = some (.int .u64 0) := (HGq.out.cell 2).trans rfl
          have f0 := HGq.out.frozen 2
          have hbd := of_decide_eq_false (HPk.out.args ⟨kd2, vl2⟩ (by simp))
          have hv0 := (HIn.out.argsOk ⟨kd2, vl2⟩ (by simp)).val
          by_cases k1 : kd2 = 1
          · have hv1 := hv0.1
            simp only at hv1 hbd
            obtain ⟨v, rfl⟩ : ∃ v : Nat, vl2 = (v : Int) := ⟨vl2.toNat, by omega⟩
            have hvk : v < k := by omega
            have hvr : v < results.length := by omega
            have hvi : (v : Int) < (results.length : Int) := by omega
            have hg : g2 = results.getD v 0 := by rw [← HG2.out]; unfold givenL; rw [if_pos k1]; rfl
            have e1 : (kd2 == 1) = true := by simpa using k1
            have e2 : (kd2 == 2) = false := by simp [k1]
            obtain ⟨rA', rc', er, hrd⟩ := Rd.of_own HAt2.out.rs
            injection er with er1 er2 er3
            subst er1
            obtain ⟨rb, ro, rfl, hrb, hrc⟩ := hrd.at_ (by omega)
            have hne : rb ≠ gv := by
              have := HAt2.out.rs.lt rb rfl
              intro e
              obtain ⟨cc, fz, hh⟩ := own_cell HAt2.out.rs (g := rb) rfl
              have hb := HGv.out
              unfold Bk at hb
              rw [e, hb] at hh
              injection hh with hh
              injection hh with _ hh _
              exact absurd hh (by decide)
            have hres : wr.cell? ⟨rb, ro + v, none⟩ = some (.int .u64 g2) := HVq.out.cell (a := ⟨rb, ro + v, none⟩) (hrc v _ (by rw [hg]; simp [u64s, List.getElem?_map, List.getElem?_eq_getElem hvr])) (fun e => hne (Option.some.inj e))
            have HK := Lib.hid k1
            have hr1 : rb < wr.heap.size := Nat.lt_of_lt_of_le hrb HVq.out.size
            have hr2 : rb ≠ wr.heap.size := Nat.ne_of_lt hr1
            have hr3 : wr.heap.size ≠ rb := Nat.ne_of_gt hr1
            have hr4 : gv ≠ rb := fun e => hne e.symm
            have hr5 : gv ≠ wr.heap.size := Nat.ne_of_lt hgvl
            have hr6 : wr.heap.size ≠ gv := Nat.ne_of_gt hgvl
            have hr1 : rb < wr.heap.size := Nat.lt_of_lt_of_le hrb HVq.out.size
            have hr2 : rb ≠ wr.heap.size := Nat.ne_of_lt hr1
            have hr3 : wr.heap.size ≠ rb := Nat.ne_of_gt hr1
            have hr4 : gv ≠ rb := fun e => hne e.symm
            have hr5 : gv ≠ wr.heap.size := Nat.ne_of_lt hgvl
            have hr6 : wr.heap.size ≠ gv := Nat.ne_of_gt hgvl
            have hr1 : rb < wr.heap.size := Nat.lt_of_lt_of_le hrb HVq.out.size
            have hr2 : rb ≠ wr.heap.size := Nat.ne_of_lt hr1
            have hr3 : wr.heap.size ≠ rb := Nat.ne_of_gt hr1
            have hr4 : gv ≠ rb := fun e => hne e.symm
            have hr5 : gv ≠ wr.heap.size := Nat.ne_of_lt hgvl
            have hr6 : wr.heap.size ≠ gv := Nat.ne_of_gt hgvl
            have hr1 : rb < wr.heap.size := Nat.lt_of_lt_of_le hrb HVq.out.size
            have hr2 : rb ≠ wr.heap.size := Nat.ne_of_lt hr1
            have hr3 : wr.heap.size ≠ rb := Nat.ne_of_gt hr1
            have hr4 : gv ≠ rb := fun e => hne e.symm
            have hr5 : gv ≠ wr.heap.size := Nat.ne_of_lt hgvl
            have hr6 : wr.heap.size ≠ gv := Nat.ne_of_gt hgvl
            clear k1 hg er2 er3 hrd hrb hrc hbd hv0
            go_wp2
            obtain ⟨V, hV⟩ : ∃ V, ((wr.setCell ⟨gv, 2, none⟩ (.int .u64 (v : Int))).setCell ⟨gv, 2, none⟩ (.int .u64 g2)).alloc (.cells #[.int .i64 kd2, .int .u64 (v : Int)] 77) = V := ⟨_, rfl⟩
            rw [hV]
            have HGn : Hid (Bk V gv 25 (gCells g0 g1 g2 g3 3)) := by
              show Bk _ _ _ _
              rw [← hV]
              have h := ((HGq.out.set_ 2 (.int .u64 (v : Int))).set_ 2 (.int .u64 g2)).alloc (.cells #[.int .i64 kd2, .int .u64 (v : Int)] 77)
              simpa [gCells] using h
            have HVn : Hid (V2.grownBy V (some gv)) := by
              show World.grownBy _ _ _
              rw [← hV]
              exact HVq.out.trans (((grown_set _ _ _ _).trans (grown_set _ _ _ _)).trans ((World.grownBy_alloc _ _ none).but _))
            clear hV 
            go_roundw
            case rel => exact ⟨3, ⟨by omega, by go_num⟩, HGn, HVn⟩
            case measure => simp [intOf]
          · by_cases k2 : kd2 = 2
            · have hv1 := hv0.1
              simp only at hv1 hbd
              obtain ⟨v, rfl⟩ : ∃ v : Nat, vl2 = (v : Int) := ⟨vl2.toNat, by omega⟩
              have hv4 : v < 4 := by omega
              have hvi : (v : Int) < 4 := by omega
              have hg : g2 = [a0, a1, a2, a3].getD v 0 := by rw [← HG2.out]; unfold givenL; rw [if_neg k1, if_pos k2]; rfl
              have e1 : (kd2 == 1) = false := by simpa using k1
              have e2 : (kd2 == 2) = true := by simpa using k2
              have hwl := HAt2.out.ar.lt
              have hwr : w.heap.size < wr.heap.size := Nat.lt_of_lt_of_le hwl HVq.out.size
              have hwg : w.heap.size ≠ gv := by omega
              have hcell : wr.cell? ⟨w.heap.size, v, none⟩ = some (.int .u64 g2) := by
                rw [(HAt2.out.ar.grown HVq.out (fun e => hwg (Option.some.inj e).symm)).cell, hg]
                have : v = 0 ∨ v = 1 ∨ v = 2 ∨ v = 3 := by omega
                rcases this with rfl | rfl | rfl | rfl <;> rfl
              have hr2 : w.heap.size ≠ wr.heap.size := Nat.ne_of_lt hwr
              have hr3 : wr.heap.size ≠ w.heap.size := Nat.ne_of_gt hwr
              have hr4 : gv ≠ w.heap.size := fun e => hwg e.symm
              have hr5 : gv ≠ wr.heap.size := Nat.ne_of_lt hgvl
              have hr6 : wr.heap.size ≠ gv := Nat.ne_of_gt hgvl
              clear k1 k2 hg hbd hv0
              go_wp2
              obtain ⟨V, hV⟩ : ∃ V, ((wr.setCell ⟨gv, 2, none⟩ (.int .u64 (v : Int))).setCell ⟨gv, 2, none⟩ (.int .u64 g2)).alloc (.cells #[.int .i64 kd2, .int .u64 (v : Int)] 77) = V := ⟨_, rfl⟩
              rw [hV]
              have HGn : Hid (Bk V gv 25 (gCells g0 g1 g2 g3 3)) := by
                show Bk _ _ _ _
                rw [← hV]
                have h := ((HGq.out.set_ 2 (.int .u64 (v : Int))).set_ 2 (.int .u64 g2)).alloc (.cells #[.int .i64 kd2, .int .u64 (v : Int)] 77)
                simpa [gCells] using h
              have HVn : Hid (V2.grownBy V (some gv)) := by
                show World.grownBy _ _ _
                rw [← hV]
                exact HVq.out.trans (((grown_set _ _ _ _).trans (grown_set _ _ _ _)).trans ((World.grownBy_alloc _ _ none).but _))
              clear hV
              go_roundw
              case rel => exact ⟨3, ⟨by omega, by go_num⟩, HGn, HVn⟩
              case measure => simp [intOf]
            · have hg : vl2 = g2 := by rw [← HG2.out]; unfold givenL; rw [if_neg k1, if_neg k2]
              have e1 : (kd2 == 1) = false := by simpa using k1
              have e2 : (kd2 == 2) = false := by simpa using k2
              subst hg
              have hr5 : gv ≠ wr.heap.size := Nat.ne_of_lt hgvl
              have hr6 : wr.heap.size ≠ gv := Nat.ne_of_gt hgvl
              clear k1 k2 hbd hv0
              go_wp2
              obtain ⟨V, hV⟩ : ∃ V, (wr.setCell ⟨gv, 2, none⟩ (.int .u64 vl2)).alloc (.cells #[.int .i64 kd2, .int .u64 vl2] 77) = V := ⟨_, rfl⟩
              rw [hV]
              have HGn : Hid (Bk V gv 25 (gCells g0 g1 vl2 g3 3)) := by
                show Bk _ _ _ _
                rw [← hV]
                have h := (HGq.out.set_ 2 (.int .u64 vl2)).alloc (.cells #[.int .i64 kd2, .int .u64 vl2] 77)
                simpa [gCells] using h
              have HVn : Hid (V2.grownBy V (some gv)) := by
                show World.grownBy _ _ _
                rw [← hV]
                exact HVq.out.trans ((grown_set _ _ _ _).trans ((World.grownBy_alloc _ _ none).but _))
              clear hV
              go_roundw
              case rel => exact ⟨3, ⟨by omega, by go_num⟩, HGn, HVn⟩
              case measure => simp [intOf]
        · have d0 : wr.cell? ⟨gv, 3, none⟩ = some (.int .u64 0) := (HGq.out.cell 3).trans rfl
          have f0 := HGq.out.frozen 3
          have hbd := of_decide_eq_false (HPk.out.args ⟨kd3, vl3⟩ (by simp))
          have hv0 := (HIn.out.argsOk ⟨kd3, vl3⟩ (by simp)).val
          by_cases k1 : kd3 = 1
          · have hv1 := hv0.1
            simp only at hv1 hbd
            obtain ⟨v, rfl⟩ : ∃ v : Nat, vl3 = (v : Int) := ⟨vl3.toNat, by omega⟩
            have hvk : v < k := by omega
            have hvr : v < results.length := by omega
            have hvi : (v : Int) < (results.length : Int) := by omega
            have hg : g3 = results.getD v 0 := by rw [← HG3.out]; unfold givenL; rw [if_pos k1]; rfl
            have e1 : (kd3 == 1) = true := by simpa using k1
            have e2 : (kd3 == 2) = false := by simp [k1]
            obtain ⟨rA', rc', er, hrd⟩ := Rd.of_own HAt2.out.rs
            injection er with er1 er2 er3
            subst er1
            obtain ⟨rb, ro, rfl, hrb, hrc⟩ := hrd.at_ (by omega)
            have hne : rb ≠ gv := by
              have := HAt2.out.rs.lt rb rfl
              intro e
              obtain ⟨cc, fz, hh⟩ := own_cell HAt2.out.rs (g := rb) rfl
              have hb := HGv.out
              unfold Bk at hb
              rw [e, hb] at hh
              injection hh with hh
              injection hh with _ hh _
              exact absurd hh (by decide)
            have hres : wr.cell? ⟨rb, ro + v, none⟩ = some (.int .u64 g3) := HVq.out.cell (a := ⟨rb, ro + v, none⟩) (hrc v _ (by rw [hg]; simp [u64s, List.getElem?_map, List.getElem?_eq_getElem hvr])) (fun e => hne (Option.some.inj e))
            have HK := Lib.hid k1
            have hr1 : rb < wr.heap.size := Nat.lt_of_lt_of_le hrb HVq.out.size
            have hr2 : rb ≠ wr.heap.size := Nat.ne_of_lt hr1
            have hr3 : wr.heap.size ≠ rb := Nat.ne_of_gt hr1
            have hr4 : gv ≠ rb := fun e => hne e.symm
            have hr5 : gv ≠ wr.heap.size := Nat.ne_of_lt hgvl
            have hr6 : wr.heap.size ≠ gv := Nat.ne_of_gt hgvl
            have hr1 : rb < wr.heap.size := Nat.lt_of_lt_of_le hrb HVq.out.size
            have hr2 : rb ≠ wr.heap.size := Nat.ne_of_lt hr1
            have hr3 : wr.heap.size ≠ rb := Nat.ne_of_gt hr1
            have hr4 : gv ≠ rb := fun e => hne e.symm
            have hr5 : gv ≠ wr.heap.size := Nat.ne_of_lt hgvl
            have hr6 : wr.heap.size ≠ gv := Nat.ne_of_gt hgvl
            have hr1 : rb < wr.heap.size := Nat.lt_of_lt_of_le hrb HVq.out.size
            have hr2 : rb ≠ wr.heap.size := Nat.ne_of_lt hr1
            have hr3 : wr.heap.size ≠ rb := Nat.ne_of_gt hr1
            have hr4 : gv ≠ rb := fun e => hne e.symm
            have hr5 : gv ≠ wr.heap.size := Nat.ne_of_lt hgvl
            have hr6 : wr.heap.size ≠ gv := Nat.ne_of_gt hgvl
            have hr1 : rb < wr.heap.size := Nat.lt_of_lt_of_le hrb HVq.out.size
            have hr2 : rb ≠ wr.heap.size := Nat.ne_of_lt hr1
            have hr3 : wr.heap.size ≠ rb := Nat.ne_of_gt hr1
            have hr4 : gv ≠ rb := fun e => hne e.symm
            have hr5 : gv ≠ wr.heap.size := Nat.ne_of_lt hgvl
            have hr6 : wr.heap.size ≠ gv := Nat.ne_of_gt hgvl
            clear k1 hg er2 er3 hrd hrb hrc hbd hv0
            go_wp2
            obtain ⟨V, hV⟩ : ∃ V, ((wr.setCell ⟨gv, 3, none⟩ (.int .u64 (v : Int))).setCell ⟨gv, 3, none⟩ (.int .u64 g3)).alloc (.cells #[.int .i64 kd3, .int .u64 (v : Int)] 77) = V := ⟨_, rfl⟩
            rw [hV]
            have HGn : Hid (Bk V gv 25 (gCells g0 g1 g2 g3 4)) := by
              show Bk _ _ _ _
              rw [← hV]
              have h := ((HGq.out.set_ 3 (.int .u64 (v : Int))).set_ 3 (.int .u64 g3)).alloc (.cells #[.int .i64 kd3, .int .u64 (v : Int)] 77)
              simpa [gCells] using h
            have HVn : Hid (V2.grownBy V (some gv)) := by
              show World.grownBy _ _ _
              rw [← hV]
              exact HVq.out.trans (((grown_set _ _ _ _).trans (grown_set _ _ _ _)).trans ((World.grownBy_alloc _ _ none).but _))
            clear hV 
            go_roundw
            case rel => exact ⟨4, ⟨by omega, by go_num⟩, HGn, HVn⟩
            case measure => simp [intOf]
          · by_cases k2 : kd3 = 2
            · have hv1 := hv0.1
              simp only at hv1 hbd
              obtain ⟨v, rfl⟩ : ∃ v : Nat, vl3 = (v : Int) := ⟨vl3.toNat, by omega⟩
              have hv4 : v < 4 := by omega
              have hvi : (v : Int) < 4 := by omega
              have hg : g3 = [a0, a1, a2, a3].getD v 0 := by rw [← HG3.out]; unfold givenL; rw [if_neg k1, if_pos k2]; rfl
              have e1 : (kd3 == 1) = false := by simpa using k1
              have e2 : (kd3 == 2) = true := by simpa using k2
              have hwl := HAt2.out.ar.lt
              have hwr : w.heap.size < wr.heap.size := Nat.lt_of_lt_of_le hwl HVq.out.size
              have hwg : w.heap.size ≠ gv := by omega
              have hcell : wr.cell? ⟨w.heap.size, v, none⟩ = some (.int .u64 g3) := by
                rw [(HAt2.out.ar.grown HVq.out (fun e => hwg (Option.some.inj e).symm)).cell, hg]
                have : v = 0 ∨ v = 1 ∨ v = 2 ∨ v = 3 := by omega
                rcases this with rfl | rfl | rfl | rfl <;> rfl
              have hr2 : w.heap.size ≠ wr.heap.size := Nat.ne_of_lt hwr
              have hr3 : wr.heap.size ≠ w.heap.size := Nat.ne_of_gt hwr
              have hr4 : gv ≠ w.heap.size := fun e => hwg e.symm
              have hr5 : gv ≠ wr.heap.size := Nat.ne_of_lt hgvl
              have hr6 : wr.heap.size ≠ gv := Nat.ne_of_gt hgvl
              clear k1 k2 hg hbd hv0
              go_wp2
              obtain ⟨V, hV⟩ : ∃ V, ((wr.setCell ⟨gv, 3, none⟩ (.int .u64 (v : Int))).setCell ⟨gv, 3, none⟩ (.int .u64 g3)).alloc (.cells #[.int .i64 kd3, .int .u64 (v : Int)] 77) = V := ⟨_, rfl⟩
              rw [hV]
              have HGn : Hid (Bk V gv 25 (gCells g0 g1 g2 g3 4)) := by
                show Bk _ _ _ _
                rw [← hV]
                have h := ((HGq.out.set_ 3 (.int .u64 (v : Int))).set_ 3 (.int .u64 g3)).alloc (.cells #[.int .i64 kd3, .int .u64 (v : Int)] 77)
                simpa [gCells] using h
              have HVn : Hid (V2.grownBy V (some gv)) := by
                show World.grownBy _ _ _
                rw [← hV]
                exact HVq.out.trans (((grown_set _ _ _ _).trans (grown_set _ _ _ _)).trans ((World.grownBy_alloc _ _ none).but _))
              clear hV
              go_roundw
              case rel => exact ⟨4, ⟨by omega, by go_num⟩, HGn, HVn⟩
              case measure => simp [intOf]
            · have hg : vl3 = g3 := by rw [← HG3.out]; unfold givenL; rw [if_neg k1, if_neg k2]
              have e1 : (kd3 == 1) = false := by simpa using k1
              have e2 : (kd3 == 2) = false := by simpa using k2
              subst hg
              have hr5 : gv ≠ wr.heap.size := Nat.ne_of_lt hgvl
              have hr6 : wr.heap.size ≠ gv := Nat.ne_of_gt hgvl
              clear k1 k2 hbd hv0
              go_wp2
              obtain ⟨V, hV⟩ : ∃ V, (wr.setCell ⟨gv, 3, none⟩ (.int .u64 vl3)).alloc (.cells #[.int .i64 kd3, .int .u64 vl3] 77) = V := ⟨_, rfl⟩
              rw [hV]
              have HGn : Hid (Bk V gv 25 (gCells g0 g1 g2 vl3 4)) := by
                show Bk _ _ _ _
                rw [← hV]
                have h := (HGq.out.set_ 3 (.int .u64 vl3)).alloc (.cells #[.int .i64 kd3, .int .u64 vl3] 77)
                simpa [gCells] using h
              have HVn : Hid (V2.grownBy V (some gv)) := by
                show World.grownBy _ _ _
                rw [← hV]
                exact HVq.out.trans ((grown_set _ _ _ _).trans ((World.grownBy_alloc _ _ none).but _))
              clear hV
              go_roundw
              case rel => exact ⟨4, ⟨by omega, by go_num⟩, HGn, HVn⟩
              case measure => simp [intOf]
        · have HGf : Hid (Bk wr gv 25 #[.int .u64 g0, .int .u64 g1, .int .u64 g2, .int .u64 g3]) := HGq
          have HPtf := Lib.hid (HPt.out.grown HVq.out (fun e => by have := Option.some.inj e; omega))
          have HAtf := Lib.hid (RunsAt.cellOf HAt2.out HVq.out HGv.out (by omega) (by omega) hsaz (by have := hsab; omega))
          have HLkf := HLk
          have hgu : ∀ x ∈ [g0, g1, g2, g3], U64 x := by
            have hgl : ∀ (kd vl g : Int), givenL [a0, a1, a2, a3] results ⟨kd, vl⟩ = g → U64 vl → U64 g := fun kd vl g h hv => by
              rw [← h]
              unfold givenL
              split
              · exact getD_u64L HAt2.out.ru _
              split
              · exact getD_u64L HAU.out _
              · exact hv
            intro x hx
            simp at hx
            rcases hx with rfl | rfl | rfl | rfl
            · exact hgl _ _ _ HG0.out (HIn.out.argsOk ⟨kd0, vl0⟩ (by simp)).val
            · exact hgl _ _ _ HG1.out (HIn.out.argsOk ⟨kd1, vl1⟩ (by simp)).val
            · exact hgl _ _ _ HG2.out (HIn.out.argsOk ⟨kd2, vl2⟩ (by simp)).val
            · exact hgl _ _ _ HG3.out (HIn.out.argsOk ⟨kd3, vl3⟩ (by simp)).val
          have HGu := Lib.hid hgu
          have hmap : [(⟨kd0, vl0⟩ : PArg), ⟨kd1, vl1⟩, ⟨kd2, vl2⟩, ⟨kd3, vl3⟩].map (givenL [a0, a1, a2, a3] results) = [g0, g1, g2, g3] := by
            simp only [List.map_cons, List.map_nil, HG0.out, HG1.out, HG2.out, HG3.out]
          have HMap := Lib.hid hmap
          have hzr : gv + 1 ≤ wr.heap.size := Nat.le_trans hz1 HVq.out.size
          have y0 : wr.cell? ⟨gp, 0, none⟩ = some (.slice qA qn qc) := (HPtf.out.cell 0).trans rfl
          have v0 : wr.cell? ⟨gv, 0, none⟩ = some (.int .u64 g0) := (HGf.out.cell 0).trans rfl
          have v1 : wr.cell? ⟨gv, 1, none⟩ = some (.int .u64 g1) := (HGf.out.cell 1).trans rfl
          have v2 : wr.cell? ⟨gv, 2, none⟩ = some (.int .u64 g2) := (HGf.out.cell 2).trans rfl
          have v3 : wr.cell? ⟨gv, 3, none⟩ = some (.int .u64 g3) := (HGf.out.cell 3).trans rfl
          clear hgu hmap
          go_wp2_with fail
          have HCode := Lib.hid (((HL.out.all _ (List.mem_of_getElem? HLk.out)).code.below HAtf.out.be).more HAtf.out.be.size)
          refine (run_any W4.heap.size (304 + 320 * k) sa ma st code qA qn qc [g0, g1, g2, g3] 300 1048576 left lA lc _ HAtf.out.al HAtf.out.ok HCode.out HIn.out.ok rfl HGu.out (by decide) (by decide) (HAtf.out.lf.more HAtf.out.be.size) HAtf.out.lu HAtf.out.lcap (by have := HAtf.out.l20; omega) (by omega)).mono ?_
          rintro e V5 ⟨⟨nv, mb5, rfl, hst, hown, _, _⟩, hok5, hg5⟩
          obtain ⟨An, cn, rfl, _⟩ := Rd.of_own hown
          obtain ⟨Q, hQ⟩ : ∃ Q, runP st code [g0, g1, g2, g3] 300 1048576 left = Q := ⟨_, rfl⟩
          have HNx : Hid (Q.code ≠ 41 → (Q.code ≠ 0 ∧ (goP (wholeL l) [a0, a1, a2, a3] 1048576 1048576 (startP s0 pick)).code = Q.code ∧ (goP (wholeL l) [a0, a1, a2, a3] 1048576 1048576 (startP s0 pick)).val = Q.val) ∨ (Q.code = 0 ∧ ∃ S' R', Reached l s0 [a0, a1, a2, a3] pick (k + 1) Q.st (left.drop Q.news.length) (results ++ [Q.val]) S' R')) := by
            intro h
            have e : runP st (Prt.mk qA qn qc code [(⟨kd0, vl0⟩ : PArg), ⟨kd1, vl1⟩, ⟨kd2, vl2⟩, ⟨kd3, vl3⟩]).code ((Prt.mk qA qn qc code [(⟨kd0, vl0⟩ : PArg), ⟨kd1, vl1⟩, ⟨kd2, vl2⟩, ⟨kd3, vl3⟩]).args.map (givenL [a0, a1, a2, a3] results)) 300 1048576 left = Q := by
              simp only []
              rw [HMap.out, hQ]
            have h2 := reach_next HPs.out HAtf.out.re HLk.out (by rw [e]; exact h)
            rw [e] at h2
            exact h2
          have HQv : Hid (Q.code = 0 → U64 Q.val) := by
            intro h
            rw [← hQ] at h ⊢
            exact val_u64 HPk.out.right HIn.out.ok HGu.out HAtf.out.ok HAtf.out.lu (by decide) h
          have HQn : Hid (Q.news.length ≤ left.length) := by
            show _ ≤ _
            rw [← hQ]
            unfold runP
            rw [if_pos HPk.out.right]
            obtain ⟨x, n1, n2⟩ := go_news code [g0, g1, g2, g3] 1048576 300 (startP st left)
            have n1 : (goP code [g0, g1, g2, g3] 1048576 300 (startP st left)).news = x := by simpa [startP] using n1
            have n2 : left = x ++ (goP code [g0, g1, g2, g3] 1048576 300 (startP st left)).pick := n2
            show (goP code [g0, g1, g2, g3] 1048576 300 (startP st left)).news.length ≤ _
            rw [n1]
            conv => rhs; rw [n2]
            rw [List.length_append]; omega
          rw [hQ] at hst hok5 ⊢
          have hal := HAtf.out.al
          have HSs := Lib.hid (HAtf.out.ss.butL hg5 (by omega) (HAtf.out.ss.map.ne_bk hal.st))
          have HLf := Lib.hid (HAtf.out.lf.grown hg5 HAtf.out.be.size (fun k e => by cases e; have := hal.bs; omega))
          have HRs := Lib.hid (HAtf.out.rs.kept hg5 (.inr (Bk.ne_own hal.st HAtf.out.rs (by decide))))
          have HLa := Lib.hid (HAtf.out.la.grown hg5 (fun e => by have := Option.some.inj e; omega))
          have HAr := Lib.hid (HAtf.out.ar.grown hg5 (fun e => by have := Option.some.inj e; have := hal.bs; omega))
          have HXr5 := Lib.hid (HAtf.out.xr.grown hg5 (by omega) (fun k e => by cases e; exact hal.bs))
          have HBe := Lib.hid (HAtf.out.be.grown hg5 HAtf.out.be.size (fun k e => by cases e; have := hal.bs; omega))
          have HAl := Lib.hid hst
          have HOk5 := Lib.hid hok5
          have HLn5 := Lib.hid HAtf.out.l20
          have HLu5 := Lib.hid HAtf.out.lu
          have hlc5 := HAtf.out.lcap
          have HRu5 := Lib.hid HAtf.out.ru
          have HRl5 := Lib.hid hreslen
          have HZ5 := Lib.hid (Nat.le_trans hzr hg5.size)
          unfold doneV
          clear hst hown hok5 hg5 hQ hal y0 v0 v1 v2 v3
          go_upto_region 28 with fail
          obtain ⟨V6, h6⟩ : ∃ V, V5.alloc (.cells #[.int .i64 Q.code, .int .u64 Q.val, .int .i64 Q.steps, .int .i64 Q.writes, .slice An Q.news.length cn] 38) = V := ⟨_, rfl⟩
          have hg6 : V5.grownBy V6 none := by rw [← h6]; exact World.grownBy_alloc _ _ _
          have HD6 : Hid (Bk V6 V5.heap.size 38 #[.int .i64 Q.code, .int .u64 Q.val, .int .i64 Q.steps, .int .i64 Q.writes, .slice An Q.news.length cn]) := by show Bk _ _ _ _; rw [← h6]; exact Bk.new _ _ _
          rw [h6]
          have HSs := Lib.hid (HSs.out.more hg6)
          have HLf := Lib.hid (HLf.out.grown hg6 HBe.out.size (fun k e => by cases e))
          have HRs := Lib.hid (HRs.out.kept hg6 (by cases (Value.slice rA results.length rc).ownBlock <;> simp))
          have HLa := Lib.hid (HLa.out.grown hg6 (by simp))
          have HAr := Lib.hid (HAr.out.grown hg6 (by simp))
          have hzz := HZ5.out
          have HXr5 := Lib.hid (HXr5.out.grown hg6 (by omega) (fun k e => by cases e))
          have HBe := Lib.hid (HBe.out.grown hg6 HBe.out.size (fun k e => by cases e))
          have HAl := Lib.hid (HAl.out.more hg6)
          have HZ6 := Lib.hid (Nat.le_trans hzz hg6.size)
          clear h6 hg6
          obtain ⟨d0, d1, d2, d3, d4, _, _, _, _, _⟩ := bk_done HD6.out
          by_cases h41 : Q.code = 41
          · have h41b : (Q.code == 41) = true := by simpa using h41
            go_wp2_with fail
            go_ret
            exact ⟨rfl, HBe.out⟩
          have h41b : (Q.code == 41) = false := by simpa using h41
          obtain ⟨lA2, s2, r2⟩ := cut_l (P := Try.prog) 26 elem_u64sL size_u64sL HLf.out hlc5 Q.news.length Q.news.length rfl HQn.out
          have t0 : V6.cell? ⟨gl, 0, none⟩ = some (.int .i64 0) := (HLa.out.cell 0).trans rfl
          have t1 : V6.cell? ⟨gl, 1, none⟩ = some (.int .u64 (results.getD (k - 1) 0)) := (HLa.out.cell 1).trans rfl
          have tf0 := HLa.out.frozen 0
          have tf1 := HLa.out.frozen 1
          have HR2 := Lib.hid r2
          clear r2
          go_upto_region 32 with fail
          obtain ⟨V7, h7⟩ : ∃ V, (V6.setCell ⟨gl, 0, none⟩ (.int .i64 Q.code)).setCell ⟨gl, 1, none⟩ (.int .u64 Q.val) = V := ⟨_, rfl⟩
          have hg7 : V6.grownBy V7 (some gl) := by rw [← h7]; exact (grown_set _ _ _ _).trans (grown_set _ _ _ _)
          have HL7 : Hid (Bk V7 gl 36 #[.int .i64 Q.code, .int .u64 Q.val]) := by
            show Bk _ _ _ _
            rw [← h7]
            have h := (HLa.out.set_ 0 (.int .i64 Q.code)).set_ 1 (.int .u64 Q.val)
            simpa using h
          rw [h7]
          have hsbz : sb < Z := by omega
          have HSs := Lib.hid (HSs.out.butL hg7 (by omega) (HSs.out.map.ne_bk HLa.out))
          have HLf := Lib.hid (HR2.out.grown hg7 HBe.out.size (fun k e => by cases e; omega))
          have HRs := Lib.hid (HRs.out.kept hg7 (.inr (HLa.out.ne_own HRs.out (by decide))))
          have HAr := Lib.hid (HAr.out.grown hg7 (fun e => by have := Option.some.inj e; omega))
          have HXr5 := Lib.hid (HXr5.out.grown hg7 (by have := HZ6.out; omega) (fun k e => by cases e; omega))
          have HBe := Lib.hid (HBe.out.grown hg7 HBe.out.size (fun k e => by cases e; omega))
          have HAl := Lib.hid (HAl.out.butL hg7 (by omega) (HAl.out.map.ne_bk HLa.out))
          have HZ7 := Lib.hid (Nat.le_trans HZ6.out hg7.size)
          clear h7 hg7 d0 d1 d2 d3 d4 t0 t1 tf0 tf1 s2
          have t0 : V7.cell? ⟨gl, 0, none⟩ = some (.int .i64 Q.code) := (HL7.out.cell 0).trans rfl
          have t1 : V7.cell? ⟨gl, 1, none⟩ = some (.int .u64 Q.val) := (HL7.out.cell 1).trans rfl
          have hnx := HNx.out h41
          by_cases h0 : Q.code = 0
          · have h0b : (Q.code != 0) = false := by simpa using h0
            have hend : Q.code = 0 ∧ ∃ S' R', Reached l s0 [a0, a1, a2, a3] pick (k + 1) Q.st (left.drop Q.news.length) (results ++ [Q.val]) S' R' := by
              rcases hnx with ⟨g1, _⟩ | g
              · exact absurd h0 g1
              · exact g
            obtain ⟨_, S', R', hre⟩ := hend
            have HRe := Lib.hid hre
            have haf : afterP st Q = Q.st := by unfold afterP; rw [if_pos h0]
            rw [haf] at HAl HOk5
            have HVu := Lib.hid (HQv.out h0)
            have HC0 := Lib.hid h0
            have HLnr : Hid (results.length = k) := by have := HRl5.out; show _ = _; omega
            have hlb : results.length ≤ 4 := by have := HRl5.out; omega
            clear hnx hre haf h0
            have hz7 := HZ7.out
            have HRa := Lib.hid (HRs.out.alloc (.cells #[.int .u64 Q.val] 24))
            have hga : V7.grownBy (V7.alloc (.cells #[.int .u64 Q.val] 24)) none := World.grownBy_alloc _ _ _
            have HSa := Lib.hid (HSs.out.more hga)
            have HAa := Lib.hid (HAl.out.more hga)
            have HLfa := Lib.hid (HLf.out.grown hga HBe.out.size (fun k e => by cases e))
            have HAra := Lib.hid (HAr.out.grown hga (by simp))
            have HXa := Lib.hid (HXr5.out.grown hga (by omega) (fun k e => by cases e))
            have HBa := Lib.hid (HBe.out.grown hga HBe.out.size (fun k e => by cases e))
            have HLa7 := Lib.hid (HL7.out.grown hga (by simp))
            have Ra : Hid (RdU (V7.alloc (.cells #[.int .u64 Q.val] 24)) (V7.heap.size + 1) (some ⟨V7.heap.size, 0, none⟩) 1 [Q.val]) := rdU_newL V7 [Q.val] _ rfl (by simp [maxLen])
            have hz3 : Z ≤ (V7.alloc (.cells #[.int .u64 Q.val] 24)).heap.size := by simp; omega
            have tok1 : True := trivial
            clear hga
            go_wp2_with (first
              | (at_builtin
                 have _t := tok1
                 go_must (
                   refine wpList_app _ rfl (.tmp 118) (.tmp 121) 26 rfl Z 24 i0 _ 1 8 Try.underlying26 hi0 iz0 iz1 iz2 rfl (by omega) _ _ _ rfl HRa.out _ _ 1 _ _ rfl Ra.out (by intro u hu; simp at hu; subst hu; rfl) ?_ ?_ ?_ ?_
                   · simp only [maxLen]; omega
                   · omega
                   · exact hz3
                   intro v5 w5 hown5 hg5 _
                   obtain ⟨A5, c5, hv5, _, _⟩ := Rd.of_own_cap hown5
                   subst hv5
                   have HO5 := Lib.hid hown5
                   have HS5 := Lib.hid (HSa.out.keptRow HRa.out hg5)
                   have HA5 := Lib.hid (HAa.out.keptRow HRa.out hg5)
                   have HLf5 := Lib.hid (HLfa.out.grown hg5 HBa.out.size (fun b e => by have := own_ge HRa.out e; omega))
                   have HAr5 := Lib.hid (HAra.out.grown hg5 (HAra.out.ne_own HRa.out (by decide)))
                   have HX5 := Lib.hid (HXa.out.grown hg5 (by simp; omega) (fun b e => by have := own_ge HRa.out e; omega))
                   have HB5 := Lib.hid (HBa.out.grown hg5 HBa.out.size (fun b e => by have := own_ge HRa.out e; omega))
                   have HL5 := Lib.hid (HLa7.out.grown hg5 (HLa7.out.ne_own HRa.out (by decide)))
                   have hz5 := hg5.size
                   have HZ5 : Hid (gl < w5.heap.size) := by show _ < _; simp at hz5; omega
                   clear hown5 hg5 hz5 _t tok1))
              | fail)
            go_roundw
            case rel =>
              (repeat apply Exists.intro)
              refine And.intro ?_ rfl
              refine ⟨k + 1, mb5, Q.st, left.drop Q.news.length, results ++ [Q.val], S', R', lA2, lc - Q.news.length, A5, c5, ⟨by omega, by go_num⟩, rfl, by rw [List.length_drop], by rw [List.length_append]; rfl, ?_, HZ5⟩
              have hl20 := HLn5.out
              have hqn := HQn.out
              refine ⟨HA5.out.wide (by simp only [show (300 : Int).toNat = 300 from rfl]; omega), HOk5.out, HS5.out, HRe.out, ?_, fun x hx => HLu5.out x (List.mem_of_mem_drop hx), by rw [List.length_drop]; omega, by rw [List.length_drop]; omega, ?_, fun x hx => ?_, ?_, HAr5.out, HX5.out, HB5.out⟩
              · have h := HLf5.out
                rw [Nat.mul_one] at h
                show Rd _ _ _ _ _ _
                rw [List.length_drop, show u64s (left.drop Q.news.length) = (u64s left).drop Q.news.length from List.map_drop.symm ▸ rfl]
                exact h
              · have h := HO5.out
                rw [List.length_append, show u64s (results ++ [Q.val]) = u64s results ++ u64s [Q.val] by simp [u64s]]
                exact h
              · rcases List.mem_append.1 hx with hx | hx
                · exact HRu5.out x hx
                · obtain rfl := List.mem_singleton.1 hx
                  exact HVu.out
              · have h := HL5.out
                rw [HC0.out] at h
                rw [show (results ++ [Q.val]).getD (k + 1 - 1) 0 = Q.val by rw [Nat.add_sub_cancel, List.getD_eq_getElem?_getD, List.getElem?_append_right (by have := HLnr.out; omega), HLnr.out, Nat.sub_self]; rfl]
                exact h
            case measure => simp [intOf]; omega
          · have h0b : (Q.code != 0) = true := by simpa using h0
            have hbad : (goP (wholeL l) [a0, a1, a2, a3] 1048576 1048576 (startP s0 pick)).code = Q.code ∧ (goP (wholeL l) [a0, a1, a2, a3] 1048576 1048576 (startP s0 pick)).val = Q.val := by
              rcases hnx with ⟨_, g1, g2⟩ | ⟨g1, _⟩
              · exact ⟨g1, g2⟩
              · exact absurd g1 h0
            have HWc := Lib.hid hbad.1
            have HWv := Lib.hid hbad.2
            have HWst : Hid (afterP s0 (goP (wholeL l) [a0, a1, a2, a3] 1048576 1048576 (startP s0 pick)) = s0) := by show _ = _; unfold afterP; rw [if_neg (by rw [HWc.out]; exact h0)]
            clear hnx hbad h0
            go_wp2_with fail
            refine (mclone_any W4.heap.size 304 sb mb2 s0 _ HSs.out).mono ?_
            rintro e V8 ⟨sx, mx, rfl, hsx, hb8⟩
            have hg8 := bk_grown_below hb8
            have HAx := Lib.hid hsx
            have HSs := Lib.hid (HSs.out.more hg8)
            have HXr8 := Lib.hid (HXr5.out.grown hg8 (by have := HZ7.out; omega) (fun k e => by cases e))
            have HBe := Lib.hid (HBe.out.trans (hb8.mono HBe.out.size))
            have HAr := Lib.hid (HAr.out.grown hg8 (by simp))
            have HL8 := Lib.hid (HL7.out.grown hg8 (by simp))
            have HZ8 := Lib.hid (Nat.le_trans HZ7.out hb8.size)
            clear hsx hb8 hg8 t0 t1
            go_wp2_with fail
            refine (mclone_any W4.heap.size 304 sb mb2 s0 _ HSs.out).mono ?_
            rintro e U1 ⟨sw, mw, rfl, hsw, hbu⟩
            have hgu := bk_grown_below hbu
            have HWs := Lib.hid hsw
            have HAlu := Lib.hid (HAx.out.more hgu)
            have HXu := Lib.hid (HXr8.out.grown hgu (by have := HZ8.out; omega) (fun k e => by cases e))
            have HBu := Lib.hid (HBe.out.trans (hbu.mono HBe.out.size))
            have HAu := Lib.hid (HAr.out.grown hgu (by simp))
            have HLu := Lib.hid (HL8.out.grown hgu (by simp))
            have hszu := hsw.bs
            have halu := HAx.out.st.lt
            have hglu := HL8.out.lt
            have haru := HAr.out.lt
            have HBz := Lib.hid (show W4.heap.size ≤ U1.heap.size by have := HZ8.out; have := hbu.size; omega)
            clear hsw hbu hgu
            have w0 : U1.cell? ⟨w.heap.size, 0, none⟩ = some (.int .u64 a0) := (HAu.out.cell 0).trans rfl
            have w1 : U1.cell? ⟨w.heap.size, 1, none⟩ = some (.int .u64 a1) := (HAu.out.cell 1).trans rfl
            have w2 : U1.cell? ⟨w.heap.size, 2, none⟩ = some (.int .u64 a2) := (HAu.out.cell 2).trans rfl
            have w3 : U1.cell? ⟨w.heap.size, 3, none⟩ = some (.int .u64 a3) := (HAu.out.cell 3).trans rfl
            go_wp2_with fail
            refine (run_any _ 304 sw mw s0 (wholeL l) Ax (wholeL l).length cx [a0, a1, a2, a3] 1048576 1048576 pick pA pc _ HWs.out HOK.out (HXu.out.more HBz.out) HXo.out rfl HAU.out (by decide) (by decide) ((HP.out.below HBu.out).more HBu.out.size) HPU.out hpc (by omega) (by decide)).mono ?_
            rintro e U2 ⟨⟨nw, mw2, rfl, hst, hown, _, _⟩, _, hgr⟩
            obtain ⟨Aw, cw, rfl, _⟩ := Rd.of_own hown
            have hrun : runP s0 (wholeL l) [a0, a1, a2, a3] 1048576 1048576 pick = (goP (wholeL l) [a0, a1, a2, a3] 1048576 1048576 (startP s0 pick)) := by unfold runP; rw [if_pos HXr.out]; rfl
            rw [hrun] at hst ⊢
            rw [HWst.out] at hst
            obtain ⟨G, hG⟩ : ∃ G, (goP (wholeL l) [a0, a1, a2, a3] 1048576 1048576 (startP s0 pick)) = G := ⟨_, rfl⟩
            have hc1 : G.code = Q.code := by rw [← hG]; exact HWc.out
            have hc2 : G.val = Q.val := by rw [← hG]; exact HWv.out
            rw [hG]
            unfold doneV
            rw [hc1, hc2]
            have HWs2 := Lib.hid hst
            have HAl2 := Lib.hid (HAlu.out.butL hgr (by omega) (HAlu.out.map.ne_bk HWs.out.st))
            have HB2u := Lib.hid (HBu.out.grown hgr HBu.out.size (fun k e => by cases e; omega))
            have HL2u := Lib.hid (HLu.out.grown hgr (fun e => by have := Option.some.inj e; omega))
            clear hst hown hgr hrun hG hc1 hc2 w0 w1 w2 w3
            go_upto_region 38 with fail
            obtain ⟨U3, h9⟩ : ∃ V, U2.alloc (.cells #[.int .i64 (Q.code), .int .u64 (Q.val), .int .i64 G.steps, .int .i64 G.writes, .slice Aw G.news.length cw] 38) = V := ⟨_, rfl⟩
            have hg9 : U2.grownBy U3 none := by rw [← h9]; exact World.grownBy_alloc _ _ _
            have HDu : Hid (Bk U3 U2.heap.size 38 #[.int .i64 (Q.code), .int .u64 (Q.val), .int .i64 G.steps, .int .i64 G.writes, .slice Aw G.news.length cw]) := by show Bk _ _ _ _; rw [← h9]; exact Bk.new _ _ _
            rw [h9]
            have HWs3 := Lib.hid (HWs2.out.more hg9)
            have HAl3 := Lib.hid (HAl2.out.more hg9)
            have HB3u := Lib.hid (HB2u.out.grown hg9 HB2u.out.size (fun k e => by cases e))
            have HL3u := Lib.hid (HL2u.out.grown hg9 (by simp))
            clear h9 hg9
            obtain ⟨e0, e1, e2, e3, e4, _, _, _, _, _⟩ := bk_done HDu.out
            have j0 : U3.cell? ⟨gl, 0, none⟩ = some (.int .i64 (Q.code)) := (HL3u.out.cell 0).trans rfl
            have j1 : U3.cell? ⟨gl, 1, none⟩ = some (.int .u64 (Q.val)) := (HL3u.out.cell 1).trans rfl
            go_wp2_with fail
            refine (stsame_any _ _ _ _ _ _ _ _ _ _ _ HWs3.out HAl3.out).mono ?_
            rintro e U4 ⟨r1, rfl, hr1, hgu⟩
            obtain rfl : r1 = true := hr1.2 (same_reflL _)
            have HB4u := Lib.hid (HB3u.out.grown hgu HB3u.out.size (fun k e => by cases e))
            clear hr1 hgu
            go_wp2
            go_ret
            exact ⟨rfl, HB4u.out⟩
    · obtain rfl : n = k := by omega
      have hre : Reached l s0 [a0, a1, a2, a3] pick l.length st left results S R := by rw [HLn.out]; exact HAt.out.re
      obtain ⟨g1, g2, g3⟩ := reach_end HPs.out (by rw [HLn.out]; omega) hre
      have HWc := Lib.hid g1
      have HWv : Hid ((goP (wholeL l) [a0, a1, a2, a3] 1048576 1048576 (startP s0 pick)).val = results.getD (n - 1) 0) := by show _ = _; rw [g2, HLn.out]
      have HWst : Hid (afterP s0 (goP (wholeL l) [a0, a1, a2, a3] 1048576 1048576 (startP s0 pick)) = st) := by show _ = _; unfold afterP; rw [if_pos g1]; exact g3
      have HSs := Lib.hid HAt.out.ss
      have HAl := Lib.hid HAt.out.al
      have HXr := HXr
      have HXq := Lib.hid HAt.out.xr
      have HBe := Lib.hid HAt.out.be
      have HAr := Lib.hid HAt.out.ar
      obtain ⟨LV, hLV⟩ : ∃ LV, results.getD (n - 1) 0 = LV := ⟨_, rfl⟩
      have HLx : Hid (Bk wr gl 36 #[.int .i64 0, .int .u64 LV]) := by show Bk _ _ _ _; rw [← hLV]; exact HAt.out.la
      rw [hLV] at HWv
      have hgle : Z + 1 = gl := hgl
      clear hre g1 g2 g3 hLV
      go_wp2_with fail
      refine (mclone_any W4.heap.size 304 sb mb2 s0 _ HSs.out).mono ?_
      rintro e U1 ⟨sw, mw, rfl, hsw, hbu⟩
      have hgu := bk_grown_below hbu
      have HWs := Lib.hid hsw
      have HAlu := Lib.hid (HAl.out.more hgu)
      have HXu := Lib.hid (HXq.out.grown hgu (by have := HZr.out; omega) (fun k e => by cases e))
      have HBu := Lib.hid (HBe.out.trans (hbu.mono HBe.out.size))
      have HAu := Lib.hid (HAr.out.grown hgu (by simp))
      have HLu := Lib.hid (HLx.out.grown hgu (by simp))
      have hszu := hsw.bs
      have halu := HAl.out.st.lt
      have hglu := HLx.out.lt
      have haru := HAr.out.lt
      have HBz := Lib.hid (show W4.heap.size ≤ U1.heap.size by have := HZr.out; have := hbu.size; omega)
      clear hsw hbu hgu
      have w0 : U1.cell? ⟨w.heap.size, 0, none⟩ = some (.int .u64 a0) := (HAu.out.cell 0).trans rfl
      have w1 : U1.cell? ⟨w.heap.size, 1, none⟩ = some (.int .u64 a1) := (HAu.out.cell 1).trans rfl
      have w2 : U1.cell? ⟨w.heap.size, 2, none⟩ = some (.int .u64 a2) := (HAu.out.cell 2).trans rfl
      have w3 : U1.cell? ⟨w.heap.size, 3, none⟩ = some (.int .u64 a3) := (HAu.out.cell 3).trans rfl
      go_wp2_with fail
      refine (run_any _ 304 sw mw s0 (wholeL l) Ax (wholeL l).length cx [a0, a1, a2, a3] 1048576 1048576 pick pA pc _ HWs.out HOK.out (HXu.out.more HBz.out) HXo.out rfl HAU.out (by decide) (by decide) ((HP.out.below HBu.out).more HBu.out.size) HPU.out hpc (by omega) (by decide)).mono ?_
      rintro e U2 ⟨⟨nw, mw2, rfl, hst, hown, _, _⟩, _, hgr⟩
      obtain ⟨Aw, cw, rfl, _⟩ := Rd.of_own hown
      have hrun : runP s0 (wholeL l) [a0, a1, a2, a3] 1048576 1048576 pick = (goP (wholeL l) [a0, a1, a2, a3] 1048576 1048576 (startP s0 pick)) := by unfold runP; rw [if_pos HXr.out]; rfl
      rw [hrun] at hst ⊢
      rw [HWst.out] at hst
      obtain ⟨G, hG⟩ : ∃ G, (goP (wholeL l) [a0, a1, a2, a3] 1048576 1048576 (startP s0 pick)) = G := ⟨_, rfl⟩
      have hc1 : G.code = 0 := by rw [← hG]; exact HWc.out
      have hc2 : G.val = LV := by rw [← hG]; exact HWv.out
      rw [hG]
      unfold doneV
      rw [hc1, hc2]
      have HWs2 := Lib.hid hst
      have HAl2 := Lib.hid (HAlu.out.butL hgr (by omega) (HAlu.out.map.ne_bk HWs.out.st))
      have HB2u := Lib.hid (HBu.out.grown hgr HBu.out.size (fun k e => by cases e; omega))
      have HL2u := Lib.hid (HLu.out.grown hgr (fun e => by have := Option.some.inj e; omega))
      clear hst hown hgr hrun hG hc1 hc2 w0 w1 w2 w3
      go_upto_region 38 with fail
      obtain ⟨U3, h9⟩ : ∃ V, U2.alloc (.cells #[.int .i64 (0), .int .u64 (LV), .int .i64 G.steps, .int .i64 G.writes, .slice Aw G.news.length cw] 38) = V := ⟨_, rfl⟩
      have hg9 : U2.grownBy U3 none := by rw [← h9]; exact World.grownBy_alloc _ _ _
      have HDu : Hid (Bk U3 U2.heap.size 38 #[.int .i64 (0), .int .u64 (LV), .int .i64 G.steps, .int .i64 G.writes, .slice Aw G.news.length cw]) := by show Bk _ _ _ _; rw [← h9]; exact Bk.new _ _ _
      rw [h9]
      have HWs3 := Lib.hid (HWs2.out.more hg9)
      have HAl3 := Lib.hid (HAl2.out.more hg9)
      have HB3u := Lib.hid (HB2u.out.grown hg9 HB2u.out.size (fun k e => by cases e))
      have HL3u := Lib.hid (HL2u.out.grown hg9 (by simp))
      clear h9 hg9
      obtain ⟨e0, e1, e2, e3, e4, _, _, _, _, _⟩ := bk_done HDu.out
      have j0 : U3.cell? ⟨gl, 0, none⟩ = some (.int .i64 (0)) := (HL3u.out.cell 0).trans rfl
      have j1 : U3.cell? ⟨gl, 1, none⟩ = some (.int .u64 (LV)) := (HL3u.out.cell 1).trans rfl
      go_wp2_with fail
      refine (stsame_any _ _ _ _ _ _ _ _ _ _ _ HWs3.out HAl3.out).mono ?_
      rintro e U4 ⟨r1, rfl, hr1, hgu⟩
      obtain rfl : r1 = true := hr1.2 (same_reflL _)
      have HB4u := Lib.hid (HB3u.out.grown hgu HB3u.out.size (fun k e => by cases e))
      clear hr1 hgu
      go_wp2
      go_ret
      exact ⟨rfl, HB4u.out⟩
end Go.Proofs.Ytddaeaimimdonaa
