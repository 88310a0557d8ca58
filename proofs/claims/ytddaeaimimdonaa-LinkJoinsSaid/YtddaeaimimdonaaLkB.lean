/-
  Chapter 19: the linker in memory; contract of linker.size.
-/
import Derived.Test.YtddaeaimimdonaaLkA
import Derived.Test.YtddaeaimimdonaaLkU
namespace Go.Proofs.Ytddaeaimimdonaa
open Go.RowKit
set_option linter.unusedVariables false

theorem info_insL : (Try.prog.info? 43).map (fun i => (i.zero, i.size, i.bytes)) = some (some (.agg #[.int .i64 0, .int .i64 0, .int .i64 0, .int .i64 0, .int .u64 0]), 5, 40) := by kernel_rfl
/-- The linker's cells. -/
abbrev lkArr (ov : Value) (A : Option Addr) (n c : Nat) (a0 a1 a2 a3 : PArg) (k : Int) (tv : Value) : Array Value :=
  #[ov, .slice A n c, .int .i64 a0.kind, .int .u64 a0.val, .int .i64 a1.kind, .int .u64 a1.val, .int .i64 a2.kind, .int .u64 a2.val, .int .i64 a3.kind, .int .u64 a3.val, .int .i64 k, tv]
/-- The linker, in block g: what it has made, its part, the places. -/
structure LkV (w : World) (g : Nat) (ov : Value) (out : List Ins) (A : Option Addr) (n c : Nat) (a0 a1 a2 a3 : PArg) (k : Int) (tv : Value) (tos : List Int) : Prop where
  bk : Bk w g 106 (lkArr ov A n c a0 a1 a2 a3 k tv)
  out : w.ownsRow (g + 1) 43 5 ov out.length (insCells out)
  tos : w.ownsRow (g + 1) 3 1 tv tos.length (ints tos)
def Lk (w : World) (g : Nat) (out : List Ins) (A : Option Addr) (n c : Nat) (a0 a1 a2 a3 : PArg) (k : Int) (tos : List Int) : Prop := ∃ ov tv, LkV w g ov out A n c a0 a1 a2 a3 k tv tos
theorem own_cell {w : World} {base : Nat} {e : TypeId} {size n : Nat} {v : Value} {xs : List Value} {g : Nat} (h : w.ownsRow base e size v n xs) (hv : v.ownBlock = some g) : ∃ c fz, w.heap[g]? = some (.cells c e fz) := by
  rcases h.2 with ⟨rfl, _⟩ | ⟨g', cap, cur, rfl, _, hg, _⟩
  · simp [Value.ownBlock] at hv
  · obtain rfl : g' = g := by simpa [Value.ownBlock] using hv
    exact ⟨_, _, hg⟩
theorem own_two {w : World} {b1 b2 : Nat} {e1 e2 : TypeId} {s1 s2 n1 n2 : Nat} {v1 v2 : Value} {x1 x2 : List Value} (h1 : w.ownsRow b1 e1 s1 v1 n1 x1) (h2 : w.ownsRow b2 e2 s2 v2 n2 x2) (hne : e1 ≠ e2) : v2.ownBlock = none ∨ v2.ownBlock ≠ v1.ownBlock := by
  cases hv : v2.ownBlock with
  | none => exact .inl rfl
  | some b =>
    refine .inr fun e => ?_
    obtain ⟨c1, f1, g1⟩ := own_cell h1 e.symm
    obtain ⟨c2, f2, g2⟩ := own_cell h2 hv
    rw [g1] at g2
    injection g2 with g2
    injection g2 with _ g2 _
    exact hne g2
theorem LkV.lt {w : World} {g : Nat} {ov tv : Value} {out : List Ins} {A : Option Addr} {n c : Nat} {a0 a1 a2 a3 : PArg} {k : Int} {tos : List Int} (h : LkV w g ov out A n c a0 a1 a2 a3 k tv tos) : g < w.heap.size := h.bk.lt
/-- Kept by what turns no block that there is. -/
theorem LkV.more {w w' : World} {g : Nat} {ov tv : Value} {out : List Ins} {A : Option Addr} {n c : Nat} {a0 a1 a2 a3 : PArg} {k : Int} {tos : List Int} (h : LkV w g ov out A n c a0 a1 a2 a3 k tv tos) (hg : w.grownBy w' none) : LkV w' g ov out A n c a0 a1 a2 a3 k tv tos := by
  have hk : ∀ v : Value, v.ownBlock = none ∨ v.ownBlock ≠ (none : Option Nat) := fun v => by cases v.ownBlock <;> simp
  have hk2 : ∀ v : Value, v.ownBlock = none ∨ (none : Option Nat) ≠ v.ownBlock := fun v => by cases v.ownBlock <;> simp
  exact ⟨h.bk.grown hg (by simp), h.out.kept hg (by first | exact hk _ | exact hk2 _), h.tos.kept hg (by first | exact hk _ | exact hk2 _)⟩
/-- The world that grew by a row of the linker's, with the linker's cell turned, is as it was below the linker. -/
theorem below_row {w w' : World} {g : Nat} {e : TypeId} {s n : Nat} {v : Value} {xs : List Value} (h : w.ownsRow (g + 1) e s v n xs) (hg : w.grownBy w' v.ownBlock) (hw : g ≤ w.heap.size) : Below g w w' :=
  (Below.refl g w).grown hg hw (fun b hb => by have := own_ge h hb; omega)
/-- 'out' grew. -/
theorem LkV.app {w w' : World} {g : Nat} {ov tv ov' : Value} {out l : List Ins} {A : Option Addr} {n c m : Nat} {a0 a1 a2 a3 : PArg} {k : Int} {tos : List Int} (h : LkV w g ov out A n c a0 a1 a2 a3 k tv tos) (hg : w.grownBy w' ov.ownBlock)
    (ho : w'.ownsRow (g + 1) 43 5 ov' (out.length + m) (insCells out ++ insCells l)) (hm : l.length = m) : LkV (w'.setCell ⟨g, 0, none⟩ ov') g ov' (out ++ l) A n c a0 a1 a2 a3 k tv tos := by
  refine ⟨?_, ?_, ?_⟩
  · have h1 := (h.bk.grown hg (h.bk.ne_own h.out (by decide))).set_ 0 ov'
    simpa using h1
  · rw [List.length_append, hm, insCells_append]
    exact ownsRow_setCell_below ho (a := ⟨g, 0, none⟩) (by simp) _
  · exact ownsRow_setCell_below (h.tos.kept hg (by first | exact own_two h.out h.tos (by decide) | exact (own_two h.out h.tos (by decide)).imp id Ne.symm)) (a := ⟨g, 0, none⟩) (by simp) _
/-- 'to' grew. -/
theorem LkV.to_app {w w' : World} {g : Nat} {ov tv tv' : Value} {out : List Ins} {l : List Int} {A : Option Addr} {n c m : Nat} {a0 a1 a2 a3 : PArg} {k : Int} {tos : List Int} (h : LkV w g ov out A n c a0 a1 a2 a3 k tv tos) (hg : w.grownBy w' tv.ownBlock)
    (ho : w'.ownsRow (g + 1) 3 1 tv' (tos.length + m) (ints tos ++ ints l)) (hm : l.length = m) : LkV (w'.setCell ⟨g, 11, none⟩ tv') g ov out A n c a0 a1 a2 a3 k tv' (tos ++ l) := by
  refine ⟨?_, ?_, ?_⟩
  · have h1 := (h.bk.grown hg (h.bk.ne_own h.tos (by decide))).set_ 11 tv'
    simpa using h1
  · exact ownsRow_setCell_below (h.out.kept hg (by first | exact own_two h.tos h.out (by decide) | exact (own_two h.tos h.out (by decide)).imp id Ne.symm)) (a := ⟨g, 11, none⟩) (by simp) _
  · rw [List.length_append, hm, ints_append]
    exact ownsRow_setCell_below ho (a := ⟨g, 11, none⟩) (by simp) _
set_option maxRecDepth 100000 in
set_option maxHeartbeats 1000000 in
theorem size_any (g : Nat) (A : Option Addr) (n c : Nat) (code : List Ins) (B j : Nat) (w : World) (h1 : w.cell? ⟨g, 1, none⟩ = some (.slice A n c)) (hr : RdI w B A n code) (hj : j < n) (h1k : n ≤ 1000000) :
    Calls Try.prog 63 #[.pointer (some ⟨g, 0, none⟩), .int .i64 j] w fun e w' => e = .returned (.int .i64 (sizeL code j)) ∧ w' = w := by
  obtain ⟨b, o, i, rfl, hbB, hi, c0, c1, c2, c3, c4⟩ := hr.insAt hj
  have hl := hr.insLen
  have hS : sizeL code j = if i.op = 20 ∧ j + 1 < n then 2 else 1 := by
    unfold sizeL
    rw [List.getD_eq_getElem?_getD, hi, hl]; rfl
  rw [hS]
  obtain ⟨op, ia, ib, ic, imm⟩ := i
  simp only at c0 hS ⊢
  clear hi hl hS c1 c2 c3 c4 hr
  by_cases h20 : op = 20
  · subst h20
    by_cases hlt : j + 1 < n
    · rw [if_pos ⟨rfl, hlt⟩]
      have hd : ((j : Int) < (n : Int) - 1) := by omega
      go_enter Try.func63, Try.ntmps63
      go_wp2
      go_ret
      exact ⟨rfl, rfl⟩
    · rw [if_neg (by omega)]
      have hd : ¬ ((j : Int) < (n : Int) - 1) := by omega
      go_enter Try.func63, Try.ntmps63
      go_wp2
      go_ret
      exact ⟨rfl, rfl⟩
  · rw [if_neg (by omega)]
    have hd : (op == 20) = false := by simpa using h20
    go_enter Try.func63, Try.ntmps63
    go_wp2
    go_ret
    exact ⟨rfl, rfl⟩
end Go.Proofs.Ytddaeaimimdonaa
