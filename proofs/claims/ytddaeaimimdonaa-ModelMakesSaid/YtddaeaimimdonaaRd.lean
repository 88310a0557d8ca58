/-
  Slices that are read: what is said of them, and what keeps it. No program in sight.
-/
import Derived.WalkKit
import Derived.Handy
import Derived.Deep.Draws
import Derived.Lib.Hide
namespace Go.Proofs.Ytddaeaimimdonaa
open Go.RowKit
set_option linter.unusedVariables false

theorem ret_bool {a b : Bool} (h : a = b) : Ending.returned (.bool a) = .returned (.bool b) := by rw [h]
theorem ret_int {k : IntKind} {a b : Int} (h : a = b) : Ending.returned (.int k a) = .returned (.int k b) := by rw [h]
theorem results_tmp4 {fn : Func} {t u v x : Tmp} (h : fn.results = #[.tmp t, .tmp u, .tmp v, .tmp x]) (tmps : Array Value) (P : Program) (w : World) :
    (results fn tmps).run P w = .ok (.tuple #[tmps.getD t undef, tmps.getD u undef, tmps.getD v undef, tmps.getD x undef]) w := by simp [results, h]
theorem bcell {W w1 : World} (hb : Below W.heap.size W w1) : (∀ b o, b < W.heap.size → w1.cell? ⟨b, o, none⟩ = W.cell? ⟨b, o, none⟩) ∧ (∀ b o, b < W.heap.size → w1.frozen? ⟨b, o, none⟩ = W.frozen? ⟨b, o, none⟩) :=
  ⟨fun b o h => hb.cell (p := ⟨b, o, none⟩) h, fun b o h => hb.frozen (p := ⟨b, o, none⟩) h⟩
theorem below_drewN {B : Nat} {a w : World} (h : Below B a w) (n : Nat) : Below B a (w.drewN n) := ⟨h.os, h.tape, h.output, h.size, h.block⟩

/-- The slice (A, n) reads as the cells xs, size cells each; its cells lie in a block below B. -/
structure Rd (w : World) (B size : Nat) (A : Option Addr) (n : Nat) (xs : List Value) : Prop where
  len : xs.length = n * size
  le : n ≤ maxLen
  at_ : 0 < n → ∃ b o, A = some ⟨b, o, none⟩ ∧ b < B ∧ ∀ j u, xs[j]? = some u → w.cell? ⟨b, o + j, none⟩ = some u

section
variable {w w' : World} {B B' size n : Nat} {A : Option Addr} {xs : List Value}
theorem Rd.keep (h : Rd w B size A n xs) (hk : ∀ p : Addr, p.block < B → w'.cell? p = w.cell? p) : Rd w' B size A n xs :=
  ⟨h.len, h.le, fun hn => by
    obtain ⟨b, o, e, hb, hc⟩ := h.at_ hn
    exact ⟨b, o, e, hb, fun j u hu => (hk ⟨b, o + j, none⟩ hb).trans (hc j u hu)⟩⟩
theorem Rd.more (h : Rd w B size A n xs) (hB : B ≤ B') : Rd w B' size A n xs :=
  ⟨h.len, h.le, fun hn => by
    obtain ⟨b, o, e, hb, hc⟩ := h.at_ hn
    exact ⟨b, o, e, Nat.lt_of_lt_of_le hb hB, hc⟩⟩
theorem Rd.below (h : Rd w B size A n xs) (hb : Below B w w') : Rd w' B size A n xs := h.keep fun _ hp => hb.cell hp
theorem Rd.drew (h : Rd w B size A n xs) : Rd w.drew B size A n xs := ⟨h.len, h.le, h.at_⟩
theorem Rd.drewN (h : Rd w B size A n xs) (k : Nat) : Rd (w.drewN k) B size A n xs := ⟨h.len, h.le, h.at_⟩
theorem Rd.alloc (h : Rd w B size A n xs) (hB : B ≤ w.heap.size) (o : Obj) : Rd (w.alloc o) B size A n xs := h.below ((Below.refl _ _).alloc hB o)
theorem Rd.setCell (h : Rd w B size A n xs) {p : Addr} (hB : B ≤ p.block) (u : Value) : Rd (w.setCell p u) B size A n xs := h.below ((Below.refl _ _).setCell hB u)
theorem Rd.grown (h : Rd w B size A n xs) {row : Option Nat} (hg : w.grownBy w' row) (hB : B ≤ w.heap.size) (hr : ∀ g, row = some g → B ≤ g) : Rd w' B size A n xs :=
  h.below ((Below.refl _ _).grown hg hB hr)
theorem Rd.nil (w : World) (B size : Nat) (A : Option Addr) : Rd w B size A 0 [] := ⟨by simp, by simp [maxLen], fun h => by omega⟩
/-- A row of the call's own is a slice that reads as its cells. -/
theorem Rd.of_own {base : Nat} {e : TypeId} {v : Value} (h : w.ownsRow base e size v n xs) : ∃ A c, v = .slice A n c ∧ Rd w w.heap.size size A n xs := by
  rcases h.2 with ⟨rfl, rfl⟩ | ⟨g, cap, cur, rfl, hb, hg, hnc, hcm, hcs, hx⟩
  · exact ⟨none, 0, rfl, h.1, by simp [maxLen], fun h => by omega⟩
  · refine ⟨_, cap, rfl, h.1, Nat.le_trans hnc hcm, fun hn => ⟨g, 0, rfl, (Array.getElem?_eq_some_iff.1 hg).1, fun j u hu => ?_⟩⟩
    have hj : j < n * size := by rw [← h.1]; exact (List.getElem?_eq_some_iff.1 hu).1
    rw [← hx, List.getElem?_take_of_lt hj] at hu
    simp [World.cell?, hg]
    simpa using hu
end

/-- An instruction. -/
structure Ins where
  op : Int
  a : Int
  b : Int
  c : Int
  imm : Int
theorem Ins.ext_ {i j : Ins} (h : i.op = j.op ∧ i.a = j.a ∧ i.b = j.b ∧ i.c = j.c ∧ i.imm = j.imm) : i = j := by
  cases i; cases j; simp_all
instance : DecidableEq Ins := fun i j =>
  if h : i.op = j.op ∧ i.a = j.a ∧ i.b = j.b ∧ i.c = j.c ∧ i.imm = j.imm then isTrue (Ins.ext_ h) else isFalse (fun e => h (by subst e; exact ⟨rfl, rfl, rfl, rfl, rfl⟩))
def Ins.cells (i : Ins) : List Value := [.int .i64 i.op, .int .i64 i.a, .int .i64 i.b, .int .i64 i.c, .int .u64 i.imm]
def insCells (l : List Ins) : List Value := l.flatMap Ins.cells
/-- Its numbers are of their kinds. -/
structure Ins.Ok (i : Ins) : Prop where
  op : -9223372036854775808 ≤ i.op ∧ i.op ≤ 9223372036854775807
  a : -9223372036854775808 ≤ i.a ∧ i.a ≤ 9223372036854775807
  b : -9223372036854775808 ≤ i.b ∧ i.b ≤ 9223372036854775807
  c : -9223372036854775808 ≤ i.c ∧ i.c ≤ 9223372036854775807
  imm : 0 ≤ i.imm ∧ i.imm ≤ 18446744073709551615

theorem insCells_length (l : List Ins) : (insCells l).length = l.length * 5 := by
  induction l with
  | nil => rfl
  | cons i l ih =>
    show (i.cells ++ insCells l).length = _
    rw [List.length_append, ih]; simp [Ins.cells]; omega
theorem insCells_at {l : List Ins} {k : Nat} (h : k < l.length) {j : Nat} (hj : j < 5) : (insCells l)[k * 5 + j]? = (l[k]'h).cells[j]? := by
  induction l generalizing k with
  | nil => simp at h
  | cons i l ih =>
    rcases k with _ | k
    · simp only [insCells, List.flatMap_cons, Nat.zero_mul, Nat.zero_add, List.getElem_cons_zero]
      rw [List.getElem?_append_left (by simp [Ins.cells]; omega)]
    · simp only [insCells, List.flatMap_cons, List.getElem_cons_succ]
      rw [List.getElem?_append_right (by simp [Ins.cells]; omega)]
      have e : (k + 1) * 5 + j - i.cells.length = k * 5 + j := by simp [Ins.cells]; omega
      rw [e]
      exact ih (by simpa using h)
theorem insCells_append (l r : List Ins) : insCells (l ++ r) = insCells l ++ insCells r := by simp [insCells]

/-- A slice of instructions that is read. -/
abbrev RdI (w : World) (B : Nat) (A : Option Addr) (n : Nat) (l : List Ins) : Prop := Rd w B 5 A n (insCells l)
theorem Rd.insLen {w : World} {B n : Nat} {A : Option Addr} {l : List Ins} (h : RdI w B A n l) : l.length = n := by
  have := h.len; rw [insCells_length] at this; omega
theorem Rd.insAt {w : World} {B n : Nat} {A : Option Addr} {l : List Ins} (h : RdI w B A n l) {k : Nat} (hk : k < n) :
    ∃ b o i, A = some ⟨b, o, none⟩ ∧ b < B ∧ l[k]? = some i ∧ w.cell? ⟨b, o + k * 5, none⟩ = some (.int .i64 i.op) ∧ w.cell? ⟨b, o + k * 5 + 1, none⟩ = some (.int .i64 i.a) ∧
      w.cell? ⟨b, o + k * 5 + 2, none⟩ = some (.int .i64 i.b) ∧ w.cell? ⟨b, o + k * 5 + 3, none⟩ = some (.int .i64 i.c) ∧ w.cell? ⟨b, o + k * 5 + 4, none⟩ = some (.int .u64 i.imm) := by
  obtain ⟨b, o, e, hb, hc⟩ := h.at_ (by omega)
  have hl : k < l.length := by rw [h.insLen]; exact hk
  refine ⟨b, o, l[k]'hl, e, hb, List.getElem?_eq_getElem hl, ?_, ?_, ?_, ?_, ?_⟩
  · exact hc (k * 5) _ (by rw [← Nat.add_zero (k * 5), insCells_at hl (by omega)]; rfl)
  · exact hc (k * 5 + 1) _ (by rw [insCells_at hl (by omega)]; rfl)
  · exact hc (k * 5 + 2) _ (by rw [insCells_at hl (by omega)]; rfl)
  · exact hc (k * 5 + 3) _ (by rw [insCells_at hl (by omega)]; rfl)
  · exact hc (k * 5 + 4) _ (by rw [insCells_at hl (by omega)]; rfl)
end Go.Proofs.Ytddaeaimimdonaa
