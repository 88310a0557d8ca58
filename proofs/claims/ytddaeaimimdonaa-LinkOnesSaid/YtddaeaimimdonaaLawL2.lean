/-
  Chapter 19: the walk of LinkOnes. Printed by gen/lawl2.py.
-/
import Derived.Test.YtddaeaimimdonaaLkH
import Derived.Test.YtddaeaimimdonaaLawL2P
import Derived.Test.YtddaeaimimdonaaModI
namespace Go.Proofs.Ytddaeaimimdonaa
open Go.RowKit Go.Maps
set_option linter.unusedVariables false

theorem same_reflL (s : MSt) : SameSt s s := ⟨rfl, fun _ _ => rfl⟩
theorem StIn.butL {w w' : World} {B n sb mb k : Nat} {s : MSt} (h : StIn w B n sb mb s) (hg : w.grownBy w' (some k)) (h1 : k ≠ sb) (h2 : mb ≠ k) : StIn w' B n sb mb s :=
  ⟨Bk.grown h.st hg (by simpa using h1), h.map.kept hg (by simpa using h2), h.roots, h.bs, h.bm⟩
def pCells (A : Option Addr) (n c : Nat) : Nat → Array Value
  | 0 => #[.slice A n c, .int .i64 0, .int .u64 0, .int .i64 0, .int .u64 0, .int .i64 0, .int .u64 0, .int .i64 0, .int .u64 0]
  | 1 => #[.slice A n c, .int .i64 2, .int .u64 0, .int .i64 0, .int .u64 0, .int .i64 0, .int .u64 0, .int .i64 0, .int .u64 0]
  | 2 => #[.slice A n c, .int .i64 2, .int .u64 0, .int .i64 2, .int .u64 1, .int .i64 0, .int .u64 0, .int .i64 0, .int .u64 0]
  | 3 => #[.slice A n c, .int .i64 2, .int .u64 0, .int .i64 2, .int .u64 1, .int .i64 2, .int .u64 2, .int .i64 0, .int .u64 0]
  | _ => #[.slice A n c, .int .i64 2, .int .u64 0, .int .i64 2, .int .u64 1, .int .i64 2, .int .u64 2, .int .i64 2, .int .u64 3]
def qCells (A : Option Addr) (n c : Nat) (a0 a1 a2 a3 : Int) : Nat → Array Value
  | 0 => #[.slice A n c, .int .i64 0, .int .u64 0, .int .i64 0, .int .u64 0, .int .i64 0, .int .u64 0, .int .i64 0, .int .u64 0]
  | 1 => #[.slice A n c, .int .i64 0, .int .u64 a0, .int .i64 0, .int .u64 0, .int .i64 0, .int .u64 0, .int .i64 0, .int .u64 0]
  | 2 => #[.slice A n c, .int .i64 0, .int .u64 a0, .int .i64 0, .int .u64 a1, .int .i64 0, .int .u64 0, .int .i64 0, .int .u64 0]
  | 3 => #[.slice A n c, .int .i64 0, .int .u64 a0, .int .i64 0, .int .u64 a1, .int .i64 0, .int .u64 a2, .int .i64 0, .int .u64 0]
  | _ => #[.slice A n c, .int .i64 0, .int .u64 a0, .int .i64 0, .int .u64 a1, .int .i64 0, .int .u64 a2, .int .i64 0, .int .u64 a3]

set_option maxRecDepth 100000 in
set_option maxHeartbeats 16000000 in
theorem ones_walk (l : List Ins) (A : Option Addr) (n c : Nat) (args pick : List Int) (pA : Option Addr) (pn pc : Nat) (w : World) (hr : RdI w w.heap.size A n l) (hok : ∀ i ∈ l, i.Ok) (hc : n ≤ c) (ha4 : args.length = 4) (haU : ∀ x ∈ args, U64 x) (hp : RdU w w.heap.size pA pn pick) (hpU : ∀ x ∈ pick, U64 x) (hpc : pn ≤ pc) :
    Calls Try.prog 12 #[.slice A n c, .agg (u64s args).toArray, .slice pA pn pc] w fun e w' => e = .returned (.bool true) ∧ Below w.heap.size w w' := by
  obtain ⟨a0, a1, a2, a3, rfl⟩ := four ha4
  obtain rfl : pick.length = pn := hp.u64Len
  have HR := Lib.hid hr
  have HOk := Lib.hid hok
  have HAU := Lib.hid haU
  have HP := Lib.hid hp
  have HPU := Lib.hid hpU
  have HLn := Lib.hid hr.insLen
  clear hr hok haU hp hpU ha4
  change Calls _ _ #[_, .agg #[.int .u64 a0, .int .u64 a1, .int .u64 a2, .int .u64 a3], _] _ _
  go_enter Try.func12, Try.ntmps12
  go_wp2_with fail
  obtain ⟨W1, h1⟩ : ∃ V, w.alloc (.cells #[.int .u64 a0, .int .u64 a1, .int .u64 a2, .int .u64 a3] 25) = V := ⟨_, rfl⟩
  rw [h1]
  have hb1 : Below w.heap.size w W1 := by rw [← h1]; exact (Below.refl _ _).alloc (Nat.le_refl _) _
  have hx1 : Bk W1 w.heap.size 25 #[.int .u64 a0, .int .u64 a1, .int .u64 a2, .int .u64 a3] := by rw [← h1]; exact Bk.new _ _ _
  refine (alive19_any _).mono ?_
  rintro e W2 ⟨rfl, hb2⟩
  have HB2 := Lib.hid (hb1.trans (hb2.mono hb1.size))
  have HX2 := Lib.hid (hx1.below hb2 hx1.lt)
  clear h1 hb1 hx1 hb2
  by_cases h60 : 60 < n
  · have h60i : (60 : Int) < (n : Int) := by omega
    go_wp2
    go_ret
    exact ⟨rfl, HB2.out⟩
  have h60i : ¬ ((60 : Int) < (n : Int)) := by omega
  by_cases h20 : 20 < pick.length
  · have h20i : (20 : Int) < (pick.length : Int) := by omega
    go_wp2
    go_ret
    exact ⟨rfl, HB2.out⟩
  have h20i : ¬ ((20 : Int) < (pick.length : Int)) := by omega
  go_upto_region 6 with fail
  obtain ⟨W3, h3⟩ : ∃ V, W2.alloc (.cells #[.slice A n c, .int .i64 0, .int .u64 0, .int .i64 0, .int .u64 0, .int .i64 0, .int .u64 0, .int .i64 0, .int .u64 0] 80) = V := ⟨_, rfl⟩
  rw [h3]
  obtain ⟨W4, h4⟩ : ∃ V, W3.alloc (.cells #[.slice A n c, .int .i64 0, .int .u64 0, .int .i64 0, .int .u64 0, .int .i64 0, .int .u64 0, .int .i64 0, .int .u64 0] 80) = V := ⟨_, rfl⟩
  rw [h4]
  obtain ⟨gp, hgp⟩ : ∃ g, W2.heap.size = g := ⟨_, rfl⟩
  obtain ⟨gq, hgq⟩ : ∃ g, gp + 1 = g := ⟨_, rfl⟩
  have z3 : W3.heap.size = gq := by rw [← h3, ← hgq, ← hgp]; simp
  rw [hgp, hgq]
  have HP4 : Hid (Bk W4 gp 80 (pCells A n c 0)) := by show Bk _ _ _ _; rw [← h4, ← h3, ← hgp]; exact (Bk.new _ _ _).alloc _
  have HQ4 : Hid (Bk W4 gq 80 (qCells A n c a0 a1 a2 a3 0)) := by show Bk _ _ _ _; rw [← h4, ← z3]; exact Bk.new _ _ _
  have HX4 : Hid (Bk W4 w.heap.size 25 #[.int .u64 a0, .int .u64 a1, .int .u64 a2, .int .u64 a3]) := by show Bk _ _ _ _; rw [← h4, ← h3]; exact (HX2.out.alloc _).alloc _
  have HB4 : Hid (Below w.heap.size w W4) := by show Below _ _ _; rw [← h4, ← h3]; exact (HB2.out.alloc HB2.out.size _).alloc (by simp; exact Nat.le_succ_of_le HB2.out.size) _
  have hwp : w.heap.size < gp := by rw [← hgp]; exact HX2.out.lt
  have hpq : gp < gq := by omega
  have hn1 : gp ≠ gq := by omega
  have hn2 : gq ≠ gp := by omega
  have hn3 : w.heap.size ≠ gp := by omega
  have hn4 : gp ≠ w.heap.size := by omega
  have hn5 : w.heap.size ≠ gq := by omega
  have hn6 : gq ≠ w.heap.size := by omega
  clear h3 h4 hgp hgq z3
  go_wp2
  go_loopw [34, 9] (fun i _a wr => ∃ k : Nat, (k ≤ 4 ∧ i = .int .i64 k) ∧ Hid (Bk wr gp 80 (pCells A n c k)) ∧ Hid (Bk wr gq 80 (qCells A n c a0 a1 a2 a3 k)) ∧ Hid (Bk wr w.heap.size 25 #[.int .u64 a0, .int .u64 a1, .int .u64 a2, .int .u64 a3]) ∧ Hid (Below w.heap.size w wr)) (fun i _ _ => 4 - (intOf i).toNat)
  case atStart => exact ⟨0, ⟨by omega, rfl⟩, HP4, HQ4, HX4, HB4⟩
  case round =>
    obtain ⟨k, ⟨hk, rfl⟩, HPk, HQk, HXk, HBk⟩ := hrel
    have hk5 : k = 0 ∨ k = 1 ∨ k = 2 ∨ k = 3 ∨ k = 4 := by omega
    clear hk
    rcases hk5 with rfl | rfl | rfl | rfl | rfl
    · have x0 : wr.cell? ⟨gp, 1, none⟩ = some (.int .i64 0) := (HPk.out.cell 1).trans rfl
      have x1 : wr.cell? ⟨gp, 2, none⟩ = some (.int .u64 0) := (HPk.out.cell 2).trans rfl
      have f0 := HPk.out.frozen 1
      have f1 := HPk.out.frozen 2
      have y0 : wr.cell? ⟨gq, 1, none⟩ = some (.int .i64 0) := (HQk.out.cell 1).trans rfl
      have y1 : wr.cell? ⟨gq, 2, none⟩ = some (.int .u64 0) := (HQk.out.cell 2).trans rfl
      have g0 := HQk.out.frozen 1
      have g1 := HQk.out.frozen 2
      have z0 : wr.cell? ⟨w.heap.size, 0, none⟩ = some (.int .u64 a0) := (HXk.out.cell 0).trans rfl
      go_wp2
      obtain ⟨V, hV⟩ : ∃ V, ((((wr.setCell ⟨gp, 1, none⟩ (.int .i64 2)).setCell ⟨gp, 2, none⟩ (.int .u64 0)).setCell ⟨gq, 1, none⟩ (.int .i64 0)).setCell ⟨gq, 2, none⟩ (.int .u64 a0)) = V := ⟨_, rfl⟩
      have HPn : Hid (Bk V gp 80 (pCells A n c 1)) := by
        show Bk _ _ _ _
        rw [← hV]
        have h := (((HPk.out.set_ 1 (.int .i64 2)).set_ 2 (.int .u64 0)).set_other (p := ⟨gq, 1, none⟩) (u := .int .i64 0) hn2).set_other (p := ⟨gq, 2, none⟩) (u := .int .u64 a0) hn2
        simpa [pCells] using h
      have HQn : Hid (Bk V gq 80 (qCells A n c a0 a1 a2 a3 1)) := by
        show Bk _ _ _ _
        rw [← hV]
        have h := (((HQk.out.set_other (p := ⟨gp, 1, none⟩) (u := .int .i64 2) hn1).set_other (p := ⟨gp, 2, none⟩) (u := .int .u64 0) hn1).set_ 1 (.int .i64 0)).set_ 2 (.int .u64 a0)
        simpa [qCells] using h
      have HXn : Hid (Bk V w.heap.size 25 #[.int .u64 a0, .int .u64 a1, .int .u64 a2, .int .u64 a3]) := by
        show Bk _ _ _ _
        rw [← hV]
        exact (((HXk.out.set_other (p := ⟨gp, 1, none⟩) hn4).set_other (p := ⟨gp, 2, none⟩) hn4).set_other (p := ⟨gq, 1, none⟩) hn6).set_other (p := ⟨gq, 2, none⟩) hn6
      have HBn : Hid (Below w.heap.size w V) := by
        show Below _ _ _
        rw [← hV]
        exact (((HBk.out.setCell (p := ⟨gp, 1, none⟩) (by simp; omega) _).setCell (p := ⟨gp, 2, none⟩) (by simp; omega) _).setCell (p := ⟨gq, 1, none⟩) (by simp; omega) _).setCell (p := ⟨gq, 2, none⟩) (by simp; omega) _
      rw [hV]
      clear hV x0 x1 f0 f1 y0 y1 g0 g1 z0
      go_roundw
      case rel => exact ⟨1, ⟨by omega, by go_num⟩, HPn, HQn, HXn, HBn⟩
      case measure => simp [intOf]
    · have x0 : wr.cell? ⟨gp, 3, none⟩ = some (.int .i64 0) := (HPk.out.cell 3).trans rfl
      have x1 : wr.cell? ⟨gp, 4, none⟩ = some (.int .u64 0) := (HPk.out.cell 4).trans rfl
      have f0 := HPk.out.frozen 3
      have f1 := HPk.out.frozen 4
      have y0 : wr.cell? ⟨gq, 3, none⟩ = some (.int .i64 0) := (HQk.out.cell 3).trans rfl
      have y1 : wr.cell? ⟨gq, 4, none⟩ = some (.int .u64 0) := (HQk.out.cell 4).trans rfl
      have g0 := HQk.out.frozen 3
      have g1 := HQk.out.frozen 4
      have z0 : wr.cell? ⟨w.heap.size, 1, none⟩ = some (.int .u64 a1) := (HXk.out.cell 1).trans rfl
      go_wp2
      obtain ⟨V, hV⟩ : ∃ V, ((((wr.setCell ⟨gp, 3, none⟩ (.int .i64 2)).setCell ⟨gp, 4, none⟩ (.int .u64 1)).setCell ⟨gq, 3, none⟩ (.int .i64 0)).setCell ⟨gq, 4, none⟩ (.int .u64 a1)) = V := ⟨_, rfl⟩
      have HPn : Hid (Bk V gp 80 (pCells A n c 2)) := by
        show Bk _ _ _ _
        rw [← hV]
        have h := (((HPk.out.set_ 3 (.int .i64 2)).set_ 4 (.int .u64 1)).set_other (p := ⟨gq, 3, none⟩) (u := .int .i64 0) hn2).set_other (p := ⟨gq, 4, none⟩) (u := .int .u64 a1) hn2
        simpa [pCells] using h
      have HQn : Hid (Bk V gq 80 (qCells A n c a0 a1 a2 a3 2)) := by
        show Bk _ _ _ _
        rw [← hV]
        have h := (((HQk.out.set_other (p := ⟨gp, 3, none⟩) (u := .int .i64 2) hn1).set_other (p := ⟨gp, 4, none⟩) (u := .int .u64 1) hn1).set_ 3 (.int .i64 0)).set_ 4 (.int .u64 a1)
        simpa [qCells] using h
      have HXn : Hid (Bk V w.heap.size 25 #[.int .u64 a0, .int .u64 a1, .int .u64 a2, .int .u64 a3]) := by
        show Bk _ _ _ _
        rw [← hV]
        exact (((HXk.out.set_other (p := ⟨gp, 3, none⟩) hn4).set_other (p := ⟨gp, 4, none⟩) hn4).set_other (p := ⟨gq, 3, none⟩) hn6).set_other (p := ⟨gq, 4, none⟩) hn6
      have HBn : Hid (Below w.heap.size w V) := by
        show Below _ _ _
        rw [← hV]
        exact (((HBk.out.setCell (p := ⟨gp, 3, none⟩) (by simp; omega) _).setCell (p := ⟨gp, 4, none⟩) (by simp; omega) _).setCell (p := ⟨gq, 3, none⟩) (by simp; omega) _).setCell (p := ⟨gq, 4, none⟩) (by simp; omega) _
      rw [hV]
      clear hV x0 x1 f0 f1 y0 y1 g0 g1 z0
      go_roundw
      case rel => exact ⟨2, ⟨by omega, by go_num⟩, HPn, HQn, HXn, HBn⟩
      case measure => simp [intOf]
    · have x0 : wr.cell? ⟨gp, 5, none⟩ = some (.int .i64 0) := (HPk.out.cell 5).trans rfl
      have x1 : wr.cell? ⟨gp, 6, none⟩ = some (.int .u64 0) := (HPk.out.cell 6).trans rfl
      have f0 := HPk.out.frozen 5
      have f1 := HPk.out.frozen 6
      have y0 : wr.cell? ⟨gq, 5, none⟩ = some (.int .i64 0) := (HQk.out.cell 5).trans rfl
      have y1 : wr.cell? ⟨gq, 6, none⟩ = some (.int .u64 0) := (HQk.out.cell 6).trans rfl
      have g0 := HQk.out.frozen 5
      have g1 := HQk.out.frozen 6
      have z0 : wr.cell? ⟨w.heap.size, 2, none⟩ = some (.int .u64 a2) := (HXk.out.cell 2).trans rfl
      go_wp2
      obtain ⟨V, hV⟩ : ∃ V, ((((wr.setCell ⟨gp, 5, none⟩ (.int .i64 2)).setCell ⟨gp, 6, none⟩ (.int .u64 2)).setCell ⟨gq, 5, none⟩ (.int .i64 0)).setCell ⟨gq, 6, none⟩ (.int .u64 a2)) = V := ⟨_, rfl⟩
      have HPn : Hid (Bk V gp 80 (pCells A n c 3)) := by
        show Bk _ _ _ _
        rw [← hV]
        have h := (((HPk.out.set_ 5 (.int .i64 2)).set_ 6 (.int .u64 2)).set_other (p := ⟨gq, 5, none⟩) (u := .int .i64 0) hn2).set_other (p := ⟨gq, 6, none⟩) (u := .int .u64 a2) hn2
        simpa [pCells] using h
      have HQn : Hid (Bk V gq 80 (qCells A n c a0 a1 a2 a3 3)) := by
        show Bk _ _ _ _
        rw [← hV]
        have h := (((HQk.out.set_other (p := ⟨gp, 5, none⟩) (u := .int .i64 2) hn1).set_other (p := ⟨gp, 6, none⟩) (u := .int .u64 2) hn1).set_ 5 (.int .i64 0)).set_ 6 (.int .u64 a2)
        simpa [qCells] using h
      have HXn : Hid (Bk V w.heap.size 25 #[.int .u64 a0, .int .u64 a1, .int .u64 a2, .int .u64 a3]) := by
        show Bk _ _ _ _
        rw [← hV]
        exact (((HXk.out.set_other (p := ⟨gp, 5, none⟩) hn4).set_other (p := ⟨gp, 6, none⟩) hn4).set_other (p := ⟨gq, 5, none⟩) hn6).set_other (p := ⟨gq, 6, none⟩) hn6
      have HBn : Hid (Below w.heap.size w V) := by
        show Below _ _ _
        rw [← hV]
        exact (((HBk.out.setCell (p := ⟨gp, 5, none⟩) (by simp; omega) _).setCell (p := ⟨gp, 6, none⟩) (by simp; omega) _).setCell (p := ⟨gq, 5, none⟩) (by simp; omega) _).setCell (p := ⟨gq, 6, none⟩) (by simp; omega) _
      rw [hV]
      clear hV x0 x1 f0 f1 y0 y1 g0 g1 z0
      go_roundw
      case rel => exact ⟨3, ⟨by omega, by go_num⟩, HPn, HQn, HXn, HBn⟩
      case measure => simp [intOf]
    · have x0 : wr.cell? ⟨gp, 7, none⟩ = some (.int .i64 0) := (HPk.out.cell 7).trans rfl
      have x1 : wr.cell? ⟨gp, 8, none⟩ = some (.int .u64 0) := (HPk.out.cell 8).trans rfl
      have f0 := HPk.out.frozen 7
      have f1 := HPk.out.frozen 8
      have y0 : wr.cell? ⟨gq, 7, none⟩ = some (.int .i64 0) := (HQk.out.cell 7).trans rfl
      have y1 : wr.cell? ⟨gq, 8, none⟩ = some (.int .u64 0) := (HQk.out.cell 8).trans rfl
      have g0 := HQk.out.frozen 7
      have g1 := HQk.out.frozen 8
      have z0 : wr.cell? ⟨w.heap.size, 3, none⟩ = some (.int .u64 a3) := (HXk.out.cell 3).trans rfl
      go_wp2
      obtain ⟨V, hV⟩ : ∃ V, ((((wr.setCell ⟨gp, 7, none⟩ (.int .i64 2)).setCell ⟨gp, 8, none⟩ (.int .u64 3)).setCell ⟨gq, 7, none⟩ (.int .i64 0)).setCell ⟨gq, 8, none⟩ (.int .u64 a3)) = V := ⟨_, rfl⟩
      have HPn : Hid (Bk V gp 80 (pCells A n c 4)) := by
        show Bk _ _ _ _
        rw [← hV]
        have h := (((HPk.out.set_ 7 (.int .i64 2)).set_ 8 (.int .u64 3)).set_other (p := ⟨gq, 7, none⟩) (u := .int .i64 0) hn2).set_other (p := ⟨gq, 8, none⟩) (u := .int .u64 a3) hn2
        simpa [pCells] using h
      have HQn : Hid (Bk V gq 80 (qCells A n c a0 a1 a2 a3 4)) := by
        show Bk _ _ _ _
        rw [← hV]
        have h := (((HQk.out.set_other (p := ⟨gp, 7, none⟩) (u := .int .i64 2) hn1).set_other (p := ⟨gp, 8, none⟩) (u := .int .u64 3) hn1).set_ 7 (.int .i64 0)).set_ 8 (.int .u64 a3)
        simpa [qCells] using h
      have HXn : Hid (Bk V w.heap.size 25 #[.int .u64 a0, .int .u64 a1, .int .u64 a2, .int .u64 a3]) := by
        show Bk _ _ _ _
        rw [← hV]
        exact (((HXk.out.set_other (p := ⟨gp, 7, none⟩) hn4).set_other (p := ⟨gp, 8, none⟩) hn4).set_other (p := ⟨gq, 7, none⟩) hn6).set_other (p := ⟨gq, 8, none⟩) hn6
      have HBn : Hid (Below w.heap.size w V) := by
        show Below _ _ _
        rw [← hV]
        exact (((HBk.out.setCell (p := ⟨gp, 7, none⟩) (by simp; omega) _).setCell (p := ⟨gp, 8, none⟩) (by simp; omega) _).setCell (p := ⟨gq, 7, none⟩) (by simp; omega) _).setCell (p := ⟨gq, 8, none⟩) (by simp; omega) _
      rw [hV]
      clear hV x0 x1 f0 f1 y0 y1 g0 g1 z0
      go_roundw
      case rel => exact ⟨4, ⟨by omega, by go_num⟩, HPn, HQn, HXn, HBn⟩
      case measure => simp [intOf]
    · have HRw := Lib.hid (HR.out.below HBk.out)
      have x0 : wr.cell? ⟨gp, 0, none⟩ = some (.slice A n c) := (HPk.out.cell 0).trans rfl
      have x1 : wr.cell? ⟨gp, 1, none⟩ = some (.int .i64 2) := (HPk.out.cell 1).trans rfl
      have x2 : wr.cell? ⟨gp, 2, none⟩ = some (.int .u64 0) := (HPk.out.cell 2).trans rfl
      have x3 : wr.cell? ⟨gp, 3, none⟩ = some (.int .i64 2) := (HPk.out.cell 3).trans rfl
      have x4 : wr.cell? ⟨gp, 4, none⟩ = some (.int .u64 1) := (HPk.out.cell 4).trans rfl
      have x5 : wr.cell? ⟨gp, 5, none⟩ = some (.int .i64 2) := (HPk.out.cell 5).trans rfl
      have x6 : wr.cell? ⟨gp, 6, none⟩ = some (.int .u64 2) := (HPk.out.cell 6).trans rfl
      have x7 : wr.cell? ⟨gp, 7, none⟩ = some (.int .i64 2) := (HPk.out.cell 7).trans rfl
      have x8 : wr.cell? ⟨gp, 8, none⟩ = some (.int .u64 3) := (HPk.out.cell 8).trans rfl
      obtain ⟨X, Y, z, hj1, hj2, hcase⟩ : ∃ X Y z, joinL [⟨A, n, c, l, argsW⟩] = (X, z) ∧ joinL [⟨A, n, c, l, argsV a0 a1 a2 a3⟩] = (Y, z) ∧ ((z ≠ 0 ∧ X = [] ∧ Y = []) ∨ (z = 0 ∧ TwoOnes l a0 a1 a2 a3 pick X Y)) := by
        rcases two_ones (pick := pick) HOk.out HAU.out (by rw [HLn.out]; omega) A A n c n c with ⟨z, hz, g1, g2⟩ | ⟨X, Y, g1, g2, g3⟩
        · exact ⟨[], [], z, g1, g2, .inl ⟨hz, rfl, rfl⟩⟩
        · exact ⟨X, Y, 0, g1, g2, .inr ⟨rfl, g3⟩⟩
      have HJ1 := Lib.hid hj1
      have HJ2 := Lib.hid hj2
      have HCase := Lib.hid hcase
      have HBw := Lib.hid HBk.out
      clear hj1 hj2 hcase
      go_wp2_with fail
      obtain ⟨V1, hv⟩ : ∃ V, wr.alloc (.cells #[.slice A n c, .int .i64 2, .int .u64 0, .int .i64 2, .int .u64 1, .int .i64 2, .int .u64 2, .int .i64 2, .int .u64 3] 80) = V := ⟨_, rfl⟩
      have hbv : Below wr.heap.size wr V1 := by rw [← hv]; exact (Below.refl _ _).alloc (Nat.le_refl _) _
      have hrp : RdP V1 V1.heap.size (some ⟨wr.heap.size, 0, none⟩) 1 [⟨A, n, c, l, argsW⟩] := by
        refine ⟨?_, rfl, fun j hj => ?_⟩
        · rw [← hv]
          exact (Rd.new wr _ _ (size := 9) (m := 1) rfl (by simp [maxLen])).more (by simp)
        · simp at hj
          subst hj
          exact ⟨(HRw.out.below (hbv.mono HBk.out.size)).more (Nat.le_trans HBk.out.size hbv.size), HOk.out, hc, rfl, argsW_ok⟩
      rw [hv]
      refine (join_is (m := X.length) HJ1.out rfl hrp).mono ?_
      rintro e V2 ⟨v, rfl, hown, hbm⟩
      obtain ⟨Ax, cx, rfl, hrx⟩ := Rd.of_own hown
      have hvm := hbv.trans (hbm.mono hbv.size)
      have HB2 := Lib.hid (HBk.out.trans (hvm.mono HBk.out.size))
      have HQ2 := Lib.hid (HQk.out.below hvm HQk.out.lt)
      have HA2 := Lib.hid (HXk.out.below hvm HXk.out.lt)
      have HRX := Lib.hid (show RdI V2 V2.heap.size Ax X.length X from hrx)
      have HRw := Lib.hid (HR.out.below HB2.out)
      clear hv hbv hrp hown hbm hrx hvm x0 x1 x2 x3 x4 x5 x6 x7 x8
      have y0 : V2.cell? ⟨gq, 0, none⟩ = some (.slice A n c) := (HQ2.out.cell 0).trans rfl
      have y1 : V2.cell? ⟨gq, 1, none⟩ = some (.int .i64 0) := (HQ2.out.cell 1).trans rfl
      have y2 : V2.cell? ⟨gq, 2, none⟩ = some (.int .u64 a0) := (HQ2.out.cell 2).trans rfl
      have y3 : V2.cell? ⟨gq, 3, none⟩ = some (.int .i64 0) := (HQ2.out.cell 3).trans rfl
      have y4 : V2.cell? ⟨gq, 4, none⟩ = some (.int .u64 a1) := (HQ2.out.cell 4).trans rfl
      have y5 : V2.cell? ⟨gq, 5, none⟩ = some (.int .i64 0) := (HQ2.out.cell 5).trans rfl
      have y6 : V2.cell? ⟨gq, 6, none⟩ = some (.int .u64 a2) := (HQ2.out.cell 6).trans rfl
      have y7 : V2.cell? ⟨gq, 7, none⟩ = some (.int .i64 0) := (HQ2.out.cell 7).trans rfl
      have y8 : V2.cell? ⟨gq, 8, none⟩ = some (.int .u64 a3) := (HQ2.out.cell 8).trans rfl
      go_wp2_with fail
      obtain ⟨V3, hv⟩ : ∃ V, V2.alloc (.cells #[.slice A n c, .int .i64 0, .int .u64 a0, .int .i64 0, .int .u64 a1, .int .i64 0, .int .u64 a2, .int .i64 0, .int .u64 a3] 80) = V := ⟨_, rfl⟩
      have hbv : Below V2.heap.size V2 V3 := by rw [← hv]; exact (Below.refl _ _).alloc (Nat.le_refl _) _
      have hrp : RdP V3 V3.heap.size (some ⟨V2.heap.size, 0, none⟩) 1 [⟨A, n, c, l, argsV a0 a1 a2 a3⟩] := by
        refine ⟨?_, rfl, fun j hj => ?_⟩
        · rw [← hv]
          exact (Rd.new V2 _ _ (size := 9) (m := 1) rfl (by simp [maxLen])).more (by simp)
        · simp at hj
          subst hj
          exact ⟨(HRw.out.below (hbv.mono HB2.out.size)).more (Nat.le_trans HB2.out.size hbv.size), HOk.out, hc, rfl, argsV_ok HAU.out⟩
      rw [hv]
      refine (join_is (m := Y.length) HJ2.out rfl hrp).mono ?_
      rintro e V4 ⟨v, rfl, hown, hbm⟩
      obtain ⟨Ay, cy, rfl, hrx⟩ := Rd.of_own hown
      have hvm := hbv.trans (hbm.mono hbv.size)
      have HB4 := Lib.hid (HB2.out.trans (hvm.mono HB2.out.size))
      have HA4 := Lib.hid (HA2.out.below hvm HA2.out.lt)
      have HRX := Lib.hid ((HRX.out.below hvm).more hvm.size)
      have HRY := Lib.hid (show RdI V4 V4.heap.size Ay Y.length Y from hrx)
      have HRw := Lib.hid (HR.out.below HB4.out)
      have HPw := Lib.hid (HP.out.below HB4.out)
      have HZ4 := Lib.hid HB4.out.size
      clear hv hbv hrp hown hbm hrx hvm y0 y1 y2 y3 y4 y5 y6 y7 y8
      rcases HCase.out with ⟨hz, hX, hY⟩ | ⟨hz, hT⟩
      · subst hX hY
        have hzb : (z != 0) = true := by simpa using hz
        simp only [List.length_nil]
        go_wp2
        go_ret
        exact ⟨rfl, HB4.out⟩
      subst hz
      have HT := Lib.hid hT
      clear hT
      go_wp2_with fail
      refine (mnew_any _).mono ?_
      rintro e V5 ⟨s1, m1, rfl, hs1, hb5⟩
      have HS1 := Lib.hid hs1
      go_wp2_with fail
      refine (mnew_any _).mono ?_
      rintro e V6 ⟨s2, m2, rfl, hs2, hb6⟩
      have HS2 := Lib.hid hs2
      have HS1 := Lib.hid (HS1.out.more (bk_grown_below hb6))
      go_wp2_with fail
      refine (mnew_any _).mono ?_
      rintro e V7 ⟨s3, m3, rfl, hs3, hb7⟩
      have HS3 := Lib.hid hs3
      have HS1 := Lib.hid (HS1.out.more (bk_grown_below hb7))
      have HS2 := Lib.hid (HS2.out.more (bk_grown_below hb7))
      have h47 := (hb5.trans (hb6.mono hb5.size)).trans (hb7.mono (Nat.le_trans hb5.size hb6.size))
      have o1 : V4.heap.size ≤ s1 := hs1.bs
      have o2 : s1 < s2 := Nat.lt_of_lt_of_le hs1.st.lt hs2.bs
      have o3 : s2 < s3 := Nat.lt_of_lt_of_le hs2.st.lt hs3.bs
      have HB7 := Lib.hid (HB4.out.trans (h47.mono HB4.out.size))
      have HA7 := Lib.hid (HA4.out.below h47 HA4.out.lt)
      have HRX := Lib.hid (HRX.out.below h47)
      have HRY := Lib.hid (HRY.out.below h47)
      have HG7 := Lib.hid h47.size
      clear hs1 hs2 hs3 hb5 hb6 hb7 h47
      have u0 : V7.cell? ⟨w.heap.size, 0, none⟩ = some (.int .u64 a0) := (HA7.out.cell 0).trans rfl
      have u1 : V7.cell? ⟨w.heap.size, 1, none⟩ = some (.int .u64 a1) := (HA7.out.cell 1).trans rfl
      have u2 : V7.cell? ⟨w.heap.size, 2, none⟩ = some (.int .u64 a2) := (HA7.out.cell 2).trans rfl
      have u3 : V7.cell? ⟨w.heap.size, 3, none⟩ = some (.int .u64 a3) := (HA7.out.cell 3).trans rfl
      go_wp2_with fail
      refine (run_any _ 0 s1 m1 emptyS l A n c [a0, a1, a2, a3] 300 100 pick pA pc _ HS1.out emptyS_ok ((HR.out.below HB7.out).more HB7.out.size) HOk.out rfl HAU.out (by decide) (by decide) ((HP.out.below HB7.out).more HB7.out.size) HPU.out hpc (by omega) (by decide)).mono ?_
      rintro e V8 ⟨⟨nv1, m1b, rfl, hst, hown, _, _⟩, hokx, hg⟩
      obtain ⟨An, cn, rfl, _⟩ := Rd.of_own hown
      have hs4 : V4.heap.size ≤ V7.heap.size := HG7.out
      have hw4 := HA4.out.lt
      have HB8 := Lib.hid (HB7.out.grown hg HB7.out.size (fun k e => by cases e; omega))
      have HA8 := Lib.hid (HA7.out.grown hg (fun e => by have := Option.some.inj e; omega))
      have HRX := Lib.hid (HRX.out.grown hg hs4 (fun k e => by cases e; exact o1))
      have HRY := Lib.hid (HRY.out.grown hg hs4 (fun k e => by cases e; exact o1))
      have HS2 := Lib.hid (HS2.out.butL hg (by omega) (HS2.out.map.ne_bk HS1.out.st))
      have HS3 := Lib.hid (HS3.out.butL hg (by omega) (HS3.out.map.ne_bk HS1.out.st))
      obtain ⟨R, hR⟩ : ∃ R, runP emptyS l [a0, a1, a2, a3] 300 100 pick = R := ⟨_, rfl⟩
      have HSa := Lib.hid (HT.out.same 100)
      rw [hR] at hst HSa ⊢
      have HS1 := Lib.hid hst
      have HG8 := Lib.hid hg.size
      clear hst hown hokx hg hR u0 u1 u2 u3
      unfold doneV
      go_upto_region 18 with fail
      obtain ⟨V9, h9⟩ : ∃ V, V8.alloc (.cells #[.int .i64 R.code, .int .u64 R.val, .int .i64 R.steps, .int .i64 R.writes, .slice An R.news.length cn] 38) = V := ⟨_, rfl⟩
      have hg9 : V8.grownBy V9 none := by rw [← h9]; exact World.grownBy_alloc _ _ _
      have HD1 : Hid (Bk V9 V8.heap.size 38 #[.int .i64 R.code, .int .u64 R.val, .int .i64 R.steps, .int .i64 R.writes, .slice An R.news.length cn]) := by show Bk _ _ _ _; rw [← h9]; exact Bk.new _ _ _
      rw [h9]
      have HS1 := Lib.hid (HS1.out.more hg9)
      have HS2 := Lib.hid (HS2.out.more hg9)
      have HS3 := Lib.hid (HS3.out.more hg9)
      have HB9 := Lib.hid (HB8.out.grown hg9 HB8.out.size (fun k e => by cases e))
      have HA9 := Lib.hid (HA8.out.grown hg9 (by simp))
      have hs8 : V4.heap.size ≤ V8.heap.size := Nat.le_trans hs4 HG8.out
      have HRX := Lib.hid (HRX.out.grown hg9 hs8 (fun k e => by cases e))
      have HRY := Lib.hid (HRY.out.grown hg9 hs8 (fun k e => by cases e))
      have HG9 := Lib.hid (Nat.le_trans hs8 hg9.size)
      clear h9 hg9 hs8 hs4
      obtain ⟨d0, d1, d2, d3, d4, _, _, _, _, _⟩ := bk_done HD1.out
      by_cases h41 : R.code = 41
      · have h41b : (R.code == 41) = true := by simpa using h41
        go_wp2_with fail
        go_ret
        exact ⟨rfl, HB9.out⟩
      have h41b : (R.code == 41) = false := by simpa using h41
      have HE := Lib.hid (HSa.out h41)
      have u0 : V9.cell? ⟨w.heap.size, 0, none⟩ = some (.int .u64 a0) := (HA9.out.cell 0).trans rfl
      have u1 : V9.cell? ⟨w.heap.size, 1, none⟩ = some (.int .u64 a1) := (HA9.out.cell 1).trans rfl
      have u2 : V9.cell? ⟨w.heap.size, 2, none⟩ = some (.int .u64 a2) := (HA9.out.cell 2).trans rfl
      have u3 : V9.cell? ⟨w.heap.size, 3, none⟩ = some (.int .u64 a3) := (HA9.out.cell 3).trans rfl
      go_wp2_with fail
      refine (run_any _ 0 s2 m2 emptyS X Ax X.length cx [a0, a1, a2, a3] 1048576 100 pick pA pc _ HS2.out emptyS_ok (HRX.out.more HG9.out) HT.out.okX rfl HAU.out (by decide) (by decide) ((HP.out.below HB9.out).more HB9.out.size) HPU.out hpc (by omega) (by decide)).mono ?_
      rintro e V10 ⟨⟨nv2, m2b, rfl, hst, hown, _, _⟩, hokx, hg⟩
      obtain ⟨Am, cm, rfl, _⟩ := Rd.of_own hown
      -- the second run
      obtain ⟨R2, hR⟩ : ∃ R, runP emptyS X [a0, a1, a2, a3] 1048576 100 pick = R := ⟨_, rfl⟩
      obtain ⟨e1, e2, e3, e4⟩ := HE.out.1
      rw [hR] at e1 e2 e3 e4 hst ⊢
      rw [e4] at hst
      unfold doneV
      rw [e1, e2, e3]
      have hsx := HG9.out
      have HB9n := Lib.hid (HB9.out.grown hg HB9.out.size (fun k e => by cases e; omega))
      have HS1 := Lib.hid (HS1.out.butL hg (by omega) (HS1.out.map.ne_bk HS2.out.st))
      have HS3 := Lib.hid (HS3.out.butL hg (by omega) (HS3.out.map.ne_bk HS2.out.st))
      have HD1 := Lib.hid (HD1.out.grown hg (fun e => BkS.ne_done HS2.out.st HD1.out (Option.some.inj e)))
      have HS2 := Lib.hid hst
      have HRY := Lib.hid (HRY.out.grown hg hsx (fun k e => by cases e; omega))
      have HG10 := Lib.hid (Nat.le_trans hsx hg.size)
      clear hst hown hokx hg hR e1 e2 e3 e4 hsx u0 u1 u2 u3 d0 d1 d2 d3 d4
      go_upto_region 21 with fail
      obtain ⟨V11, h9⟩ : ∃ V, V10.alloc (.cells #[.int .i64 R.code, .int .u64 R.val, .int .i64 R2.steps, .int .i64 R.writes, .slice Am R2.news.length cm] 38) = V := ⟨_, rfl⟩
      have hg9 : V10.grownBy V11 none := by rw [← h9]; exact World.grownBy_alloc _ _ _
      have HD2 : Hid (Bk V11 V10.heap.size 38 #[.int .i64 R.code, .int .u64 R.val, .int .i64 R2.steps, .int .i64 R.writes, .slice Am R2.news.length cm]) := by show Bk _ _ _ _; rw [← h9]; exact Bk.new _ _ _
      rw [h9]
      have HS1 := Lib.hid (HS1.out.more hg9)
      have HS2 := Lib.hid (HS2.out.more hg9)
      have HS3 := Lib.hid (HS3.out.more hg9)
      have HD1 := Lib.hid (HD1.out.grown hg9 (by simp))
      have HB11 := Lib.hid (HB9n.out.grown hg9 HB9n.out.size (fun k e => by cases e))
      have HRY := Lib.hid (HRY.out.grown hg9 HG10.out (fun k e => by cases e))
      have HG11 := Lib.hid (Nat.le_trans HG10.out hg9.size)
      clear h9 hg9
      go_wp2_with fail
      refine (run_any _ 0 s3 m3 emptyS Y Ay Y.length cy [0, 0, 0, 0] 1048576 100 pick pA pc _ HS3.out emptyS_ok (HRY.out.more HG11.out) HT.out.okY rfl (u64_lits rfl) (by decide) (by decide) ((HP.out.below HB11.out).more HB11.out.size) HPU.out hpc (by omega) (by decide)).mono ?_
      rintro e V12 ⟨⟨nv3, m3b, rfl, hst, hown, _, _⟩, hokx, hg⟩
      obtain ⟨Ak, ck, rfl, _⟩ := Rd.of_own hown
      obtain ⟨R3, hR⟩ : ∃ R, runP emptyS Y [0, 0, 0, 0] 1048576 100 pick = R := ⟨_, rfl⟩
      obtain ⟨e1, e2, e3, e4⟩ := HE.out.2
      rw [hR] at e1 e2 e3 e4 hst ⊢
      rw [e4] at hst
      unfold doneV
      rw [e1, e2, e3]
      have hsx := HG11.out
      have HB11n := Lib.hid (HB11.out.grown hg HB11.out.size (fun k e => by cases e; omega))
      have HS1 := Lib.hid (HS1.out.butL hg (by omega) (HS1.out.map.ne_bk HS3.out.st))
      have HS2 := Lib.hid (HS2.out.butL hg (by omega) (HS2.out.map.ne_bk HS3.out.st))
      have HD1 := Lib.hid (HD1.out.grown hg (fun e => BkS.ne_done HS3.out.st HD1.out (Option.some.inj e)))
      have HD2 := Lib.hid (HD2.out.grown hg (fun e => BkS.ne_done HS3.out.st HD2.out (Option.some.inj e)))
      have HS3 := Lib.hid hst
      clear hst hown hokx hg hR e1 e2 e3 e4 hsx
      go_upto_region 22 with fail
      obtain ⟨V13, h9⟩ : ∃ V, V12.alloc (.cells #[.int .i64 R.code, .int .u64 R.val, .int .i64 R3.steps, .int .i64 R.writes, .slice Ak R3.news.length ck] 38) = V := ⟨_, rfl⟩
      have hg9 : V12.grownBy V13 none := by rw [← h9]; exact World.grownBy_alloc _ _ _
      have HD3 : Hid (Bk V13 V12.heap.size 38 #[.int .i64 R.code, .int .u64 R.val, .int .i64 R3.steps, .int .i64 R.writes, .slice Ak R3.news.length ck]) := by show Bk _ _ _ _; rw [← h9]; exact Bk.new _ _ _
      rw [h9]
      have HS1 := Lib.hid (HS1.out.more hg9)
      have HS2 := Lib.hid (HS2.out.more hg9)
      have HS3 := Lib.hid (HS3.out.more hg9)
      have HD1 := Lib.hid (HD1.out.grown hg9 (by simp))
      have HD2 := Lib.hid (HD2.out.grown hg9 (by simp))
      have HB13 := Lib.hid (HB11n.out.grown hg9 HB11n.out.size (fun k e => by cases e))
      clear h9 hg9
      obtain ⟨d0, d1, d2, d3, d4, _, _, _, _, _⟩ := bk_done HD1.out
      obtain ⟨e0, e1, e2, e3, e4, _, _, _, _, _⟩ := bk_done HD2.out
      obtain ⟨j0, j1, j2, j3, j4, _, _, _, _, _⟩ := bk_done HD3.out
      go_wp2_with fail
      refine (stsame_any _ _ _ _ _ _ _ _ _ _ _ HS1.out HS2.out).mono ?_
      rintro e V14 ⟨r1, rfl, hr1, hg14⟩
      obtain rfl : r1 = true := hr1.2 (same_reflL _)
      have HG14 := Lib.hid hg14
      clear hr1 hg14
      go_wp2_with fail
      refine (stsame_any _ _ _ _ _ _ _ _ _ _ _ (HS1.out.more HG14.out) (HS3.out.more HG14.out)).mono ?_
      rintro e V15 ⟨r2, rfl, hr2, hg15⟩
      obtain rfl : r2 = true := hr2.2 (same_reflL _)
      have hg := HG14.out.trans hg15
      have HB15 := Lib.hid (HB13.out.grown hg HB13.out.size (fun k e => by cases e))
      have HD1 := Lib.hid (HD1.out.grown hg (by simp))
      have HD2 := Lib.hid (HD2.out.grown hg (by simp))
      clear hr2 hg15 hg d0 d1 d2 d3 d4 e0 e1 e2 e3 e4 j0 j1 j2 j3 j4
      obtain ⟨d0, d1, d2, d3, d4, _, _, _, _, _⟩ := bk_done HD1.out
      obtain ⟨e0, e1, e2, e3, e4, _, _, _, _, _⟩ := bk_done HD2.out
      go_wp2
      go_ret
      exact ⟨rfl, HB15.out⟩
end Go.Proofs.Ytddaeaimimdonaa
