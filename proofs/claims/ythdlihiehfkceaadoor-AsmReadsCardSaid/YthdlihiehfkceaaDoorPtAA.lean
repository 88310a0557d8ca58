/-
  Texts of one proof, joined (wip/gen/pack.py): Rd, Own, GlyP, AsmP, GlyA, AsmA, GlyB.
-/
import Derived.WalkKit
import Derived.Handy
import Derived.Deep.Draws
import Derived.Lib.Hide
import Derived.Maps.AppendAt
import Derived.OwnWalk
import Derived.Laws.OwnMore
import Derived.Lib.SlBytesConst
import Derived.Laws.BytesArg
import Derived.Laws.Runes
import Derived.Test.YthdlihiehfkceaaDoorChecked
import Derived.Lib.OthersKept
import Derived.Test.YthdlihiehfkceaaDoorShelf
import Derived.Lib.ItoaLen
namespace Go.Proofs.YthdlihiehfkceaaDoor
open Go.RowKit
set_option linter.unusedVariables false

theorem ret_bool {a b : Bool} (h : a = b) : Ending.returned (.bool a) = .returned (.bool b) := by rw [h]
theorem ret_int {k : IntKind} {a b : Int} (h : a = b) : Ending.returned (.int k a) = .returned (.int k b) := by rw [h]
theorem results_tmp4 {fn : Func} {t u v x : Tmp} (h : fn.results = #[.tmp t, .tmp u, .tmp v, .tmp x]) (tmps : Array Value) (P : Program) (w : World) :
    (results fn tmps).run P w = .ok (.tuple #[tmps.getD t undef, tmps.getD u undef, tmps.getD v undef, tmps.getD x undef]) w := by simp [results, h]
theorem bcell {W w1 : World} (hb : Below W.heap.size W w1) : (∀ b o, b < W.heap.size → w1.cell? ⟨b, o, none⟩ = W.cell? ⟨b, o, none⟩) ∧ (∀ b o, b < W.heap.size → w1.frozen? ⟨b, o, none⟩ = W.frozen? ⟨b, o, none⟩) :=
  ⟨fun b o h => hb.cell (p := ⟨b, o, none⟩) h, fun b o h => hb.frozen (p := ⟨b, o, none⟩) h⟩
theorem below_drewN {B : Nat} {a w : World} (h : Below B a w) (n : Nat) : Below B a (w.drewN n) := ⟨h.os, h.tape, h.output, h.size, h.block⟩

/-- The slice (A, n) reads as the cells xs, size cells each; its cells lie in a block below B. -/
structure Rd (w : World) (B size : Nat) (A : Option Addr) (n : Nat) (xs : List Value) : Prop where
  len : xs.length = n * size
  le : n ≤ maxLen
  at_ : 0 < n → ∃ b o, A = some ⟨b, o, none⟩ ∧ b < B ∧ ∀ j u, xs[j]? = some u → w.cell? ⟨b, o + j, none⟩ = some u

section
variable {w w' : World} {B B' size n : Nat} {A : Option Addr} {xs : List Value}
theorem Rd.keep (h : Rd w B size A n xs) (hk : ∀ p : Addr, p.block < B → w'.cell? p = w.cell? p) : Rd w' B size A n xs :=
  ⟨h.len, h.le, fun hn => by
    obtain ⟨b, o, e, hb, hc⟩ := h.at_ hn
    exact ⟨b, o, e, hb, fun j u hu => (hk ⟨b, o + j, none⟩ hb).trans (hc j u hu)⟩⟩
theorem Rd.more (h : Rd w B size A n xs) (hB : B ≤ B') : Rd w B' size A n xs :=
  ⟨h.len, h.le, fun hn => by
    obtain ⟨b, o, e, hb, hc⟩ := h.at_ hn
    exact ⟨b, o, e, Nat.lt_of_lt_of_le hb hB, hc⟩⟩
theorem Rd.below (h : Rd w B size A n xs) (hb : Below B w w') : Rd w' B size A n xs := h.keep fun _ hp => hb.cell hp
theorem Rd.drew (h : Rd w B size A n xs) : Rd w.drew B size A n xs := ⟨h.len, h.le, h.at_⟩
theorem Rd.drewN (h : Rd w B size A n xs) (k : Nat) : Rd (w.drewN k) B size A n xs := ⟨h.len, h.le, h.at_⟩
theorem Rd.alloc (h : Rd w B size A n xs) (hB : B ≤ w.heap.size) (o : Obj) : Rd (w.alloc o) B size A n xs := h.below ((Below.refl _ _).alloc hB o)
theorem Rd.setCell (h : Rd w B size A n xs) {p : Addr} (hB : B ≤ p.block) (u : Value) : Rd (w.setCell p u) B size A n xs := h.below ((Below.refl _ _).setCell hB u)
theorem Rd.grown (h : Rd w B size A n xs) {row : Option Nat} (hg : w.grownBy w' row) (hB : B ≤ w.heap.size) (hr : ∀ g, row = some g → B ≤ g) : Rd w' B size A n xs :=
  h.below ((Below.refl _ _).grown hg hB hr)
theorem Rd.nil (w : World) (B size : Nat) (A : Option Addr) : Rd w B size A 0 [] := ⟨by simp, by simp [maxLen], fun h => by omega⟩
/-- A row of the call's own is a slice that reads as its cells. -/
theorem Rd.of_own {base : Nat} {e : TypeId} {v : Value} (h : w.ownsRow base e size v n xs) : ∃ A c, v = .slice A n c ∧ Rd w w.heap.size size A n xs := by
  rcases h.2 with ⟨rfl, rfl⟩ | ⟨g, cap, cur, rfl, hb, hg, hnc, hcm, hcs, hx⟩
  · exact ⟨none, 0, rfl, h.1, by simp [maxLen], fun h => by omega⟩
  · refine ⟨_, cap, rfl, h.1, Nat.le_trans hnc hcm, fun hn => ⟨g, 0, rfl, (Array.getElem?_eq_some_iff.1 hg).1, fun j u hu => ?_⟩⟩
    have hj : j < n * size := by rw [← h.1]; exact (List.getElem?_eq_some_iff.1 hu).1
    rw [← hx, List.getElem?_take_of_lt hj] at hu
    simp [World.cell?, hg]
    simpa using hu
end

/-- An instruction. -/
structure Ins where
  op : Int
  a : Int
  b : Int
  c : Int
  imm : Int
theorem Ins.ext_ {i j : Ins} (h : i.op = j.op ∧ i.a = j.a ∧ i.b = j.b ∧ i.c = j.c ∧ i.imm = j.imm) : i = j := by
  cases i; cases j; simp_all
instance : DecidableEq Ins := fun i j =>
  if h : i.op = j.op ∧ i.a = j.a ∧ i.b = j.b ∧ i.c = j.c ∧ i.imm = j.imm then isTrue (Ins.ext_ h) else isFalse (fun e => h (by subst e; exact ⟨rfl, rfl, rfl, rfl, rfl⟩))
def Ins.cells (i : Ins) : List Value := [.int .i64 i.op, .int .i64 i.a, .int .i64 i.b, .int .i64 i.c, .int .u64 i.imm]
def insCells (l : List Ins) : List Value := l.flatMap Ins.cells
/-- Its numbers are of their kinds. -/
structure Ins.Ok (i : Ins) : Prop where
  op : -9223372036854775808 ≤ i.op ∧ i.op ≤ 9223372036854775807
  a : -9223372036854775808 ≤ i.a ∧ i.a ≤ 9223372036854775807
  b : -9223372036854775808 ≤ i.b ∧ i.b ≤ 9223372036854775807
  c : -9223372036854775808 ≤ i.c ∧ i.c ≤ 9223372036854775807
  imm : 0 ≤ i.imm ∧ i.imm ≤ 18446744073709551615

theorem insCells_length (l : List Ins) : (insCells l).length = l.length * 5 := by
  induction l with
  | nil => rfl
  | cons i l ih =>
    show (i.cells ++ insCells l).length = _
    rw [List.length_append, ih]; simp [Ins.cells]; omega
theorem insCells_at {l : List Ins} {k : Nat} (h : k < l.length) {j : Nat} (hj : j < 5) : (insCells l)[k * 5 + j]? = (l[k]'h).cells[j]? := by
  induction l generalizing k with
  | nil => simp at h
  | cons i l ih =>
    rcases k with _ | k
    · simp only [insCells, List.flatMap_cons, Nat.zero_mul, Nat.zero_add, List.getElem_cons_zero]
      rw [List.getElem?_append_left (by simp [Ins.cells]; omega)]
    · simp only [insCells, List.flatMap_cons, List.getElem_cons_succ]
      rw [List.getElem?_append_right (by simp [Ins.cells]; omega)]
      have e : (k + 1) * 5 + j - i.cells.length = k * 5 + j := by simp [Ins.cells]; omega
      rw [e]
      exact ih (by simpa using h)
theorem insCells_append (l r : List Ins) : insCells (l ++ r) = insCells l ++ insCells r := by simp [insCells]

/-- A slice of instructions that is read. -/
abbrev RdI (w : World) (B : Nat) (A : Option Addr) (n : Nat) (l : List Ins) : Prop := Rd w B 5 A n (insCells l)
theorem Rd.insLen {w : World} {B n : Nat} {A : Option Addr} {l : List Ins} (h : RdI w B A n l) : l.length = n := by
  have := h.len; rw [insCells_length] at this; omega
theorem Rd.insAt {w : World} {B n : Nat} {A : Option Addr} {l : List Ins} (h : RdI w B A n l) {k : Nat} (hk : k < n) :
    ∃ b o i, A = some ⟨b, o, none⟩ ∧ b < B ∧ l[k]? = some i ∧ w.cell? ⟨b, o + k * 5, none⟩ = some (.int .i64 i.op) ∧ w.cell? ⟨b, o + k * 5 + 1, none⟩ = some (.int .i64 i.a) ∧
      w.cell? ⟨b, o + k * 5 + 2, none⟩ = some (.int .i64 i.b) ∧ w.cell? ⟨b, o + k * 5 + 3, none⟩ = some (.int .i64 i.c) ∧ w.cell? ⟨b, o + k * 5 + 4, none⟩ = some (.int .u64 i.imm) := by
  obtain ⟨b, o, e, hb, hc⟩ := h.at_ (by omega)
  have hl : k < l.length := by rw [h.insLen]; exact hk
  refine ⟨b, o, l[k]'hl, e, hb, List.getElem?_eq_getElem hl, ?_, ?_, ?_, ?_, ?_⟩
  · exact hc (k * 5) _ (by rw [← Nat.add_zero (k * 5), insCells_at hl (by omega)]; rfl)
  · exact hc (k * 5 + 1) _ (by rw [insCells_at hl (by omega)]; rfl)
  · exact hc (k * 5 + 2) _ (by rw [insCells_at hl (by omega)]; rfl)
  · exact hc (k * 5 + 3) _ (by rw [insCells_at hl (by omega)]; rfl)
  · exact hc (k * 5 + 4) _ (by rw [insCells_at hl (by omega)]; rfl)
end Go.Proofs.YthdlihiehfkceaaDoor

namespace Go.Proofs.YthdlihiehfkceaaDoor
open Go.RowKit
set_option linter.unusedVariables false

/-- A slice that was made of new cells just now. -/
theorem Rd.new (w : World) (cs : Array Value) (t : TypeId) {size m : Nat} (hs : cs.size = m * size) (hm : m ≤ maxLen) :
    Rd (w.alloc (.cells cs t)) (w.heap.size + 1) size (some ⟨w.heap.size, 0, none⟩) m cs.toList := by
  refine ⟨by simpa using hs, hm, fun _ => ⟨w.heap.size, 0, rfl, by omega, fun j u hu => ?_⟩⟩
  rw [World.cell?_alloc_at _ _ _ _ rfl]
  simpa using hu

theorem Rd.newAt (w : World) (cs : Array Value) (t : TypeId) (g : Nat) (hg : g = w.heap.size) {size m : Nat} (hs : cs.size = m * size) (hm : m ≤ maxLen) :
    Rd (w.alloc (.cells cs t)) (g + 1) size (some ⟨g, 0, none⟩) m cs.toList := by
  subst hg; exact Rd.new w cs t hs hm

/-- Block g is just these cells. -/
def Bk (w : World) (g : Nat) (t : TypeId) (cs : Array Value) : Prop := w.heap[g]? = some (.cells cs t (0, 0))
section
variable {w w' : World} {g : Nat} {t : TypeId} {cs : Array Value}
theorem Bk.lt (h : Bk w g t cs) : g < w.heap.size := (Array.getElem?_eq_some_iff.1 h).1
theorem Bk.cell (h : Bk w g t cs) (i : Nat) : w.cell? ⟨g, i, none⟩ = cs[i]? := by
  unfold Bk at h
  simp [World.cell?, h]
theorem Bk.frozen (h : Bk w g t cs) (i : Nat) : w.frozen? ⟨g, i, none⟩ = false := by
  unfold Bk at h
  simp [World.frozen?, h]
theorem Bk.new (w : World) (t : TypeId) (cs : Array Value) : Bk (w.alloc (.cells cs t)) w.heap.size t cs := heap_alloc_new w _
theorem Bk.below {B : Nat} (h : Bk w g t cs) (hb : Below B w w') (hg : g < B) : Bk w' g t cs := (hb.block g hg).trans h
theorem Bk.grown {row : Option Nat} (h : Bk w g t cs) (hb : w.grownBy w' row) (hg : row ≠ some g) : Bk w' g t cs := (hb.block g h.lt (fun e => hg e.symm)).trans h
theorem Bk.alloc (h : Bk w g t cs) (o : Obj) : Bk (w.alloc o) g t cs := (Below.heap_alloc w o g h.lt).trans h
theorem Bk.drew (h : Bk w g t cs) : Bk w.drew g t cs := h
theorem Bk.set_ (h : Bk w g t cs) (i : Nat) (u : Value) : Bk (w.setCell ⟨g, i, none⟩ u) g t (cs.setIfInBounds i u) := by
  unfold Bk at h ⊢
  simp [World.setCell, Array.getElem?_modify, h]
theorem Bk.ne_own {base : Nat} {e : TypeId} {size n : Nat} {v : Value} {xs : List Value} (hg : Bk w g t cs) (h : w.ownsRow base e size v n xs) (hne : e ≠ t) : v.ownBlock ≠ some g := by
  rcases h.2 with ⟨rfl, _⟩ | ⟨g', cap, cur, rfl, _, hh, _⟩
  · simp [Value.ownBlock]
  · intro he
    obtain rfl : g' = g := by simpa [Value.ownBlock] using he
    unfold Bk at hg
    rw [hg] at hh
    injection hh with hh
    injection hh with _ ht
    exact hne ht.symm
end

/-- A constant text as bytes: its row has a mark behind its last cell. -/
theorem Rd.marked (w : World) (cs : Array Value) (t : TypeId) (fr : Nat × Nat) {size m : Nat} (hs : cs.size = m * size) (hm : m ≤ maxLen) :
    Rd (w.alloc (.cells cs t fr)) (w.heap.size + 1) size (some ⟨w.heap.size, 0, none⟩) m cs.toList := by
  refine ⟨by simpa using hs, hm, fun _ => ⟨w.heap.size, 0, rfl, by omega, fun j u hu => ?_⟩⟩
  rw [Nat.zero_add, World.cell?_alloc_mark]
  simpa using hu
theorem own_new (w : World) (cs : Array Value) (t : TypeId) {size m base : Nat} (hs : cs.size = m * size) (hm : m ≤ maxLen) (hb : base ≤ w.heap.size) :
    (w.alloc (.cells cs t)).ownsRow base t size (.slice (some ⟨w.heap.size, 0, none⟩) m m) m cs.toList :=
  ⟨by simpa using hs, .inr ⟨w.heap.size, m, cs, rfl, hb, heap_alloc_new w _, Nat.le_refl _, hm, hs, by rw [List.take_of_length_le]; simp [hs]⟩⟩

/-- A row of the call's own is kept by whatever turns nothing below the heap's end. -/
theorem own_below {w w' : World} {base : Nat} {e : TypeId} {size n : Nat} {v : Value} {xs : List Value} (h : w.ownsRow base e size v n xs) (hb : Below w.heap.size w w') : w'.ownsRow base e size v n xs :=
  h.kept (row := none) ⟨hb.os, hb.tape, hb.output, hb.size, fun k hk _ => hb.block k hk⟩ (by
    cases hv : v.ownBlock with
    | none => exact .inl rfl
    | some b => exact .inr (by simp))
theorem own_base {w : World} {base base' : Nat} {e : TypeId} {size n : Nat} {v : Value} {xs : List Value} (h : w.ownsRow base e size v n xs) (hb : base' ≤ base) : w.ownsRow base' e size v n xs := by
  refine ⟨h.1, ?_⟩
  rcases h.2 with hn | ⟨g, cap, cur, hv, hg, rest⟩
  · exact .inl hn
  · exact .inr ⟨g, cap, cur, hv, Nat.le_trans hb hg, rest⟩

section
variable {P : Program} (w : World)
theorem run_app_nil (base : Nat) (t ty e : TypeId) (i : TypeInfo) (size : Nat) (ht : P.underlying t = some (.slice e)) (hi : P.info? e = some i)
    (v : Value) (n : Nat) (xs : List Value) (hown : w.ownsRow base e size v n xs) (c : Nat) : (Builtin.append_ #[t, t] ty #[v, .slice none 0 c]).run P w = .ok v w := by
  rcases hown.2 with ⟨rfl, rfl⟩ | ⟨g, cap, cur, rfl, _, _, hnc, _⟩
  · simp [Builtin.append_, run_underlying ht, sizeOf, typeInfo, hi, Builtin.lenOf, Builtin.firstCells]
  · simp [Builtin.append_, run_underlying ht, sizeOf, typeInfo, hi, Builtin.lenOf, Builtin.firstCells, hnc, storeCells]

theorem run_app (base : Nat) (t ty e : TypeId) (i : TypeInfo) (z : Value) (size bytes : Nat) (ht : P.underlying t = some (.slice e)) (hi : P.info? e = some i) (hz : i.zero = some z)
    (hsize : i.size = size) (hby : i.bytes = bytes) (hzs : z.cells.size = size) (hsz : 0 < size)
    (v : Value) (n : Nat) (xs : List Value) (hown : w.ownsRow base e size v n xs)
    (B : Nat) (A : Option Addr) (m c : Nat) (news : List Value) (hr : Rd w B size A m news) (h1 : ∀ u ∈ news, u.oneCell' = true)
    (h63 : n + m ≤ maxLen) (hbytes : (n + m) * bytes ≤ 140737488355328) (hbase : base ≤ w.heap.size) :
    ∃ v' w', (Builtin.append_ #[t, t] ty #[v, .slice A m c]).run P w = .ok v' w' ∧ w'.ownsRow base e size v' (n + m) (xs ++ news) ∧ w.grownBy w' v.ownBlock ∧
      (v'.ownBlock = v.ownBlock ∨ v'.ownBlock = some w.heap.size) := by
  rcases A with _ | ad
  · have hm : m = 0 := by
      rcases Nat.eq_zero_or_pos m with h0 | h0
      · exact h0
      · obtain ⟨b, o, h, _⟩ := hr.at_ h0
        cases h
    subst hm
    have hn : news = [] := List.eq_nil_of_length_eq_zero (by simpa using hr.len)
    subst hn
    exact ⟨v, w, run_app_nil w base t ty e i size ht hi v n xs hown c, by simpa using hown, World.grownBy.refl w _, .inl rfl⟩
  · have hcells : ∀ j u, news[j]? = some u → w.cell? (ad.add j) = some u := by
      intro j u hu
      rcases Nat.eq_zero_or_pos m with h0 | h0
      · subst h0
        have hn : news = [] := List.eq_nil_of_length_eq_zero (by simpa using hr.len)
        subst hn
        simp at hu
      · obtain ⟨b, o, h, _, hc⟩ := hr.at_ h0
        injection h with h
        subst h
        have := hc j u hu
        unfold Addr.add
        split
        · rename_i hj
          subst hj
          exact this
        · exact this
    obtain ⟨v', w', hrun, h2, h3, _, h5⟩ := run_append_own_at (P := P) w base t ty e i z size bytes ht hi hz hsize hby hzs hsz v n xs hown ad m c news hr.len hcells h1 h63 hbytes hbase
    exact ⟨v', w', hrun, h2, h3, h5⟩

/-- 'x = append(s, x..)', s a row of the call's own, x a slice that is read (nil too). -/
theorem wpList_app {ops : Array Oper} {rest : List Oper} {o : Oper} {a : Act} {Q : Exit → Act → World → Prop} (hgd : o.guard = none) (s x : Operand) (t : TypeId)
    (ho : o.op = .call { callee := .builtin .append, args := #[s, x], argTypes := #[t, t] })
    (base : Nat) (e : TypeId) (i : TypeInfo) (z : Value) (size bytes : Nat) (ht : P.underlying t = some (.slice e)) (hi : P.info? e = some i) (hz : i.zero = some z)
    (hsize : i.size = size) (hby : i.bytes = bytes) (hzs : z.cells.size = size) (hsz : 0 < size)
    (v : Value) (n : Nat) (xs : List Value) (hs : a.eval s = v) (hown : w.ownsRow base e size v n xs)
    (B : Nat) (A : Option Addr) (m c : Nat) (news : List Value) (hx : a.eval x = .slice A m c) (hr : Rd w B size A m news) (h1 : ∀ u ∈ news, u.oneCell' = true)
    (h63 : n + m ≤ maxLen) (hbytes : (n + m) * bytes ≤ 140737488355328) (hbase : base ≤ w.heap.size)
    (h : ∀ v' w', w'.ownsRow base e size v' (n + m) (xs ++ news) → w.grownBy w' v.ownBlock → (v'.ownBlock = v.ownBlock ∨ v'.ownBlock = some w.heap.size) → wpList P ops Q rest (a.put o.dst v') w') : wpList P ops Q (o :: rest) a w := by
  refine wpList_plain hgd fun K hK => ?_
  obtain ⟨v', w', hrun, h2, h3, h4⟩ := run_app (P := P) w base t o.type e i z size bytes ht hi hz hsize hby hzs hsz v n xs hown B A m c news hr h1 h63 hbytes hbase
  unfold Oper.wp execOp
  simp only [ho, resolve, invoke, builtin, Sem.run_bind, Sem.run_pure, Result.andThen_ok, List.map_toArray, List.map_cons, List.map_nil, hs, hx, hrun]
  exact hK _ _ (h v' w' h2 h3 h4)
theorem rd_cells {B size m : Nat} {ad : Addr} {news : List Value} (hr : Rd w B size (some ad) m news) (h0 : 0 < m) : ∀ j u, news[j]? = some u → w.cell? (ad.add j) = some u := by
  intro j u hu
  obtain ⟨b, o, h, _, hc⟩ := hr.at_ h0
  injection h with h
  subst h
  have := hc j u hu
  unfold Addr.add
  split
  · rename_i hj
    subst hj
    exact this
  · exact this

/-- 'append(s, x..)' where s has no room, whatever its block; x is not empty: a new row of the call's own. -/
theorem run_app_full (base : Nat) (t ty e : TypeId) (i : TypeInfo) (z : Value) (size bytes : Nat) (ht : P.underlying t = some (.slice e)) (hi : P.info? e = some i) (hz : i.zero = some z)
    (hsize : i.size = size) (hby : i.bytes = bytes) (hzs : z.cells.size = size)
    (B0 : Nat) (A0 : Option Addr) (n : Nat) (xs : List Value) (hxs : Rd w B0 size A0 n xs) (hn0 : 0 < n)
    (B : Nat) (A : Option Addr) (m c : Nat) (news : List Value) (hr : Rd w B size A m news) (hm0 : 0 < m)
    (h63 : n + m ≤ maxLen) (hbytes : (n + m) * bytes ≤ 140737488355328) (hbase : base ≤ w.heap.size) :
    ∃ v' w', (Builtin.append_ #[t, t] ty #[.slice A0 n n, .slice A m c]).run P w = .ok v' w' ∧ w'.ownsRow base e size v' (n + m) (xs ++ news) ∧ Below w.heap.size w w' ∧ v'.ownBlock = some w.heap.size := by
  subst hsize
  subst hby
  have hsmall : n + m ≤ 9223372036854775807 := by simp only [maxLen] at h63; omega
  obtain ⟨b0, o0, rfl, _, _⟩ := hxs.at_ hn0
  obtain ⟨b1, o1, rfl, _, _⟩ := hr.at_ hm0
  have hlen : (xs ++ news).length = (n + m) * i.size := by rw [List.length_append, hxs.len, hr.len, Nat.add_mul]
  have hrun := run_append_grow (P := P) w t ty e i z ht hi hz ⟨b0, o0, none⟩ n n xs hxs.len (rd_cells w hxs hn0) ⟨b1, o1, none⟩ m c news hr.len (rd_cells w hr hm0) (by omega) (by omega) (growslice_fits (by omega) hbytes)
  have hge := grownCap_ge w (n + m) n e
  have hcm : grownCap w (n + m) n e ≤ maxLen := grownCap_le_maxLen w (n + m) n e h63
  refine ⟨_, _, hrun, ⟨hlen, .inr ⟨w.heap.size, _, _, rfl, hbase, heap_alloc_new w.drew _, hge, hcm, ?_, ?_⟩⟩, ?_, rfl⟩
  · simp only [Array.size_append, List.size_toArray, size_zeroCells, hzs, hxs.len, hr.len, ← Nat.add_mul]
    congr 1
    omega
  · simp only [Array.toList_append, List.append_assoc]
    rw [← List.append_assoc, ← hlen]
    exact List.take_left
  · exact (Below.refl _ _).drew.alloc (Nat.le_refl _) _

theorem wpList_app_full {ops : Array Oper} {rest : List Oper} {o : Oper} {a : Act} {Q : Exit → Act → World → Prop} (hgd : o.guard = none) (s x : Operand) (t : TypeId)
    (ho : o.op = .call { callee := .builtin .append, args := #[s, x], argTypes := #[t, t] })
    (base : Nat) (e : TypeId) (i : TypeInfo) (z : Value) (size bytes : Nat) (ht : P.underlying t = some (.slice e)) (hi : P.info? e = some i) (hz : i.zero = some z)
    (hsize : i.size = size) (hby : i.bytes = bytes) (hzs : z.cells.size = size)
    (B0 : Nat) (A0 : Option Addr) (n : Nat) (xs : List Value) (hs : a.eval s = .slice A0 n n) (hxs : Rd w B0 size A0 n xs) (hn0 : 0 < n)
    (B : Nat) (A : Option Addr) (m c : Nat) (news : List Value) (hx : a.eval x = .slice A m c) (hr : Rd w B size A m news) (hm0 : 0 < m)
    (h63 : n + m ≤ maxLen) (hbytes : (n + m) * bytes ≤ 140737488355328) (hbase : base ≤ w.heap.size)
    (h : ∀ v' w', w'.ownsRow base e size v' (n + m) (xs ++ news) → Below w.heap.size w w' → v'.ownBlock = some w.heap.size → wpList P ops Q rest (a.put o.dst v') w') : wpList P ops Q (o :: rest) a w := by
  refine wpList_plain hgd fun K hK => ?_
  obtain ⟨v', w', hrun, h2, h3, h4⟩ := run_app_full (P := P) w base t o.type e i z size bytes ht hi hz hsize hby hzs B0 A0 n xs hxs hn0 B A m c news hr hm0 h63 hbytes hbase
  unfold Oper.wp execOp
  simp only [ho, resolve, invoke, builtin, Sem.run_bind, Sem.run_pure, Result.andThen_ok, List.map_toArray, List.map_cons, List.map_nil, hs, hx, hrun]
  exact hK _ _ (h v' w' h2 h3 h4)
end

theorem below_own {B : Nat} {a w w' : World} {base : Nat} {e : TypeId} {size n : Nat} {v : Value} {xs : List Value} (h : Below B a w) (hown : w.ownsRow base e size v n xs) (hg : w.grownBy w' v.ownBlock) (hB : B ≤ base) (hw : B ≤ w.heap.size) : Below B a w' :=
  h.grown hg hw fun k hk => Nat.le_trans hB (hown.lt k hk).1

/-- Bytes. -/
def byt (l : List Int) : List Value := l.map (Value.int .u8)
theorem byt_one (l : List Int) : ∀ u ∈ byt l, u.oneCell' = true := by
  intro u hu
  obtain ⟨x, _, rfl⟩ := List.mem_map.1 hu
  rfl
theorem byt_append (l r : List Int) : byt (l ++ r) = byt l ++ byt r := by simp [byt]
theorem byt_length (l : List Int) : (byt l).length = l.length := by simp [byt]
theorem insCells_one (l : List Ins) : ∀ u ∈ insCells l, u.oneCell' = true := by
  intro u hu
  obtain ⟨i, _, h⟩ := List.mem_flatMap.1 hu
  simp [Ins.cells] at h
  rcases h with rfl | rfl | rfl | rfl | rfl <;> rfl
abbrev RdB (w : World) (B : Nat) (A : Option Addr) (n : Nat) (l : List Int) : Prop := Rd w B 1 A n (byt l)
theorem Rd.bytLen {w : World} {B n : Nat} {A : Option Addr} {l : List Int} (h : RdB w B A n l) : l.length = n := by
  have := h.len; rw [byt_length] at this; omega
theorem Rd.bytAt {w : World} {B n : Nat} {A : Option Addr} {l : List Int} (h : RdB w B A n l) {k : Nat} (hk : k < n) :
    ∃ b o x, A = some ⟨b, o, none⟩ ∧ b < B ∧ l[k]? = some x ∧ w.cell? ⟨b, o + k, none⟩ = some (.int .u8 x) := by
  obtain ⟨b, o, e, hb, hc⟩ := h.at_ (by omega)
  have hl : k < l.length := by rw [h.bytLen]; exact hk
  refine ⟨b, o, l[k]'hl, e, hb, List.getElem?_eq_getElem hl, hc k _ ?_⟩
  simp [byt, hl]
theorem Rd.addr {w : World} {B size n : Nat} {A : Option Addr} {xs : List Value} (h : Rd w B size A n xs) (hn : 0 < n) : ∃ b o, A = some ⟨b, o, none⟩ ∧ b < B := by
  obtain ⟨b, o, e, hb, _⟩ := h.at_ hn
  exact ⟨b, o, e, hb⟩
theorem Rd.byt_ {w : World} {B n b o : Nat} {l : List Int} (h : RdB w B (some ⟨b, o, none⟩) n l) {k : Nat} (hk : k < n) :
    ∃ x, l[k]? = some x ∧ w.cell? ⟨b, o + k, none⟩ = some (.int .u8 x) := by
  obtain ⟨_, _, x, e, _, hx, hc⟩ := h.bytAt hk
  cases e
  exact ⟨x, hx, hc⟩
theorem Rd.of_own_cap {w : World} {base size n : Nat} {xs : List Value} {e : TypeId} {v : Value} (h : w.ownsRow base e size v n xs) : ∃ A c, v = .slice A n c ∧ n ≤ c ∧ Rd w w.heap.size size A n xs := by
  obtain ⟨A, c, rfl, hr⟩ := Rd.of_own h
  refine ⟨A, c, rfl, ?_, hr⟩
  rcases h.2 with ⟨h0, h1⟩ | ⟨g, cap, cur, h0, hb, hg, hnc, _⟩
  · omega
  · injection h0 with _ _ h0; omega

section
variable {P : Program} {w : World} {B size n c : Nat} {A : Option Addr} {xs : List Value}
theorem Rd.drop_ (hr : Rd w B size A n xs) (k m : Nat) (hk : k ≤ n) (hm : m = n - k) : ∀ j u, (xs.drop (k * size))[j]? = some u → xs[k * size + j]? = some u := by
  intro j u h; rw [List.getElem?_drop] at h; exact h
/-- 's[k:]' of a slice that is read. -/
theorem cut_l (T : TypeId) (hT : P.underlying T = some (.slice (P.elem T))) (hs : ∀ W : World, (sizeOf (P.elem T)).run P W = .ok size W) (hr : Rd w B size A n xs) (hnc : n ≤ c) (k : Nat) (z : Int) (hz : z = k) (hk : k ≤ n) :
    ∃ A', (∀ W : World, (Instr.sliceAt T (.slice A n c) (some (.int .i64 z)) none none).run P W = .ok (.slice A' (n - k) (c - k)) W) ∧ Rd w B size A' (n - k) (xs.drop (k * size)) := by
  subst hz
  refine ⟨if c = k then A else A.map (·.add (k * size)), fun W => ?_, ?_, ?_, ?_⟩
  · rw [run_sliceAt_slice W T _ _ _ _ hT, run_slice_l W T A n c hT .i64 k (by omega) (by omega), hs]
    simp [Result.andThen, sliced]
  · rw [List.length_drop, hr.len, Nat.sub_mul]
  · have := hr.le; omega
  · intro hn
    obtain ⟨b, o, rfl, hb, hc⟩ := hr.at_ (by omega)
    rw [if_neg (by omega)]
    by_cases h0 : k * size = 0
    · refine ⟨b, o, by simp [Addr.add, h0], hb, fun j u hu => hc j u ?_⟩
      rw [List.getElem?_drop, h0] at hu
      simpa using hu
    · refine ⟨b, o + k * size, by simp [Addr.add, h0], hb, fun j u hu => ?_⟩
      rw [List.getElem?_drop] at hu
      have := hc _ u hu
      rw [Nat.add_assoc]; exact this
/-- 's[l:h]' of a slice that is read. -/
theorem cut_lh (T : TypeId) (hT : P.underlying T = some (.slice (P.elem T))) (hs : ∀ W : World, (sizeOf (P.elem T)).run P W = .ok size W) (hr : Rd w B size A n xs) (hnc : n ≤ c) (l h : Nat) (zl zh : Int) (hzl : zl = l) (hzh : zh = h) (hl : l ≤ h) (hh : h ≤ n) :
    ∃ A', (∀ W : World, (Instr.sliceAt T (.slice A n c) (some (.int .i64 zl)) (some (.int .i64 zh)) none).run P W = .ok (.slice A' (h - l) (c - l)) W) ∧ Rd w B size A' (h - l) ((xs.drop (l * size)).take ((h - l) * size)) := by
  subst hzl; subst hzh
  refine ⟨if c = l then A else A.map (·.add (l * size)), fun W => ?_, ?_, ?_, ?_⟩
  · rw [run_sliceAt_slice W T _ _ _ _ hT, run_slice_lh W T A n c hT .i64 .i64 l h (by omega) (by omega) (by omega), hs]
    simp [Result.andThen, sliced]
  · rw [List.length_take, List.length_drop, hr.len, ← Nat.sub_mul]
    exact Nat.min_eq_left (Nat.mul_le_mul_right _ (by omega))
  · have := hr.le; omega
  · intro hn
    obtain ⟨b, o, rfl, hb, hc⟩ := hr.at_ (by omega)
    rw [if_neg (by omega)]
    have tk : ∀ j u, ((xs.drop (l * size)).take ((h - l) * size))[j]? = some u → xs[l * size + j]? = some u := fun j u hu => by
      rw [List.getElem?_take] at hu
      split at hu
      · rw [List.getElem?_drop] at hu; exact hu
      · cases hu
    by_cases h0 : l * size = 0
    · refine ⟨b, o, by simp [Addr.add, h0], hb, fun j u hu => hc j u ?_⟩
      have := tk j u hu
      rw [h0] at this
      simpa using this
    · refine ⟨b, o + l * size, by simp [Addr.add, h0], hb, fun j u hu => ?_⟩
      have := hc _ u (tk j u hu)
      rw [Nat.add_assoc]; exact this
/-- 's[:h]' of a slice that is read. -/
theorem cut_h (T : TypeId) (hT : P.underlying T = some (.slice (P.elem T))) (hs : ∀ W : World, (sizeOf (P.elem T)).run P W = .ok size W) (hr : Rd w B size A n xs) (hnc : n ≤ c) (h : Nat) (zh : Int) (hzh : zh = h) (hh : h ≤ n) :
    ∃ A', (∀ W : World, (Instr.sliceAt T (.slice A n c) none (some (.int .i64 zh)) none).run P W = .ok (.slice A' h c) W) ∧ Rd w B size A' h (xs.take (h * size)) := by
  subst hzh
  refine ⟨A, fun W => ?_, ?_, ?_, ?_⟩
  · rw [run_sliceAt_slice W T _ _ _ _ hT, run_slice_h W T A n c hT .i64 h (by omega) (by omega), hs]
    by_cases hc : c = 0
    · simp [Result.andThen, sliced, hc]
    · simp [Result.andThen, sliced, hc, Addr.add]
  · rw [List.length_take, hr.len]
    exact Nat.min_eq_left (Nat.mul_le_mul_right _ hh)
  · have := hr.le; omega
  · intro hn
    obtain ⟨b, o, rfl, hb, hc⟩ := hr.at_ (by omega)
    refine ⟨b, o, rfl, hb, fun j u hu => hc j u ?_⟩
    rw [List.getElem?_take] at hu
    split at hu
    · exact hu
    · cases hu
end
theorem byt_drop (l : List Int) (k : Nat) : (byt l).drop k = byt (l.drop k) := by simp [byt]
theorem byt_take (l : List Int) (k : Nat) : (byt l).take k = byt (l.take k) := by simp [byt]
/-- 'string(b)' of bytes that are read. -/
theorem conv_str {P : Program} {w : World} {B n c : Nat} {A : Option Addr} {l : List Int} (T S e : TypeId) (hT : P.underlying T = some (.slice e)) (he : P.underlying e = some (.int .u8)) (hS : P.underlying S = some .string) (hr : RdB w B A n l) :
    (convert T S (.slice A n c)).run P w = .ok (.string (strOfNums l)) w := by
  rcases Nat.eq_zero_or_pos n with h0 | h0
  · subst h0
    have hl : l = [] := List.eq_nil_of_length_eq_zero hr.bytLen
    subst hl
    cases A with
    | none => exact run_convert_bytes_nil w T e hT he 0 c S hS
    | some a =>
      rw [run_convert_bytes_string w T S e _ _ _ hT he hS]
      have h := run_bytesToString (P := P) w a 0 c [] (by simpa using run_loadCells_list (P := P) w a [] (fun j v hj => by simp at hj))
      rw [h]; rfl
  · obtain ⟨b, o, rfl, hb⟩ := hr.addr h0
    refine run_convert_bytes_arg w T e hT he b o n c l hr.bytLen (fun i hi => ?_) S hS
    obtain ⟨x, hx, hc⟩ := hr.byt_ hi
    rw [List.getD_eq_getElem?_getD, hx]; exact hc
/-- The numbers are bytes. -/
def Byts (l : List Int) : Prop := ∀ x ∈ l, 0 ≤ x ∧ x ≤ 255
end Go.Proofs.YthdlihiehfkceaaDoor

namespace Go.Proofs.YthdlihiehfkceaaDoor
open Go.RowKit
set_option linter.unusedVariables false

/-- A token. -/
structure Tok where
  kind : Int
  text : ByteArray
  num : Int
  at_ : Int
  line : Int
theorem Tok.ext_ {i j : Tok} (h : i.kind = j.kind ∧ i.text = j.text ∧ i.num = j.num ∧ i.at_ = j.at_ ∧ i.line = j.line) : i = j := by
  cases i; cases j; simp_all
instance : DecidableEq Tok := fun i j =>
  if h : i.kind = j.kind ∧ i.text = j.text ∧ i.num = j.num ∧ i.at_ = j.at_ ∧ i.line = j.line then isTrue (Tok.ext_ h) else isFalse (fun e => h (by subst e; exact ⟨rfl, rfl, rfl, rfl, rfl⟩))
def Tok.cells (t : Tok) : List Value := [.int .i64 t.kind, .string t.text, .int .u64 t.num, .int .i64 t.at_, .int .i64 t.line]
def tokCells (l : List Tok) : List Value := l.flatMap Tok.cells
theorem tokCells_append (l r : List Tok) : tokCells (l ++ r) = tokCells l ++ tokCells r := by simp [tokCells]
theorem tokCells_one (l : List Tok) : ∀ u ∈ tokCells l, u.oneCell' = true := by
  intro u hu
  obtain ⟨i, _, h⟩ := List.mem_flatMap.1 hu
  simp [Tok.cells] at h
  rcases h with rfl | rfl | rfl | rfl | rfl <;> rfl
theorem flat_get {α : Type} (cells : α → List Value) {size : Nat} (hc : ∀ y, (cells y).length = size) : ∀ (l : List α) (k j : Nat) (y : α), l[k]? = some y → j < size → (l.flatMap cells)[k * size + j]? = (cells y)[j]?
  | [], k, j, y, h, _ => by simp at h
  | x :: l, 0, j, y, h, hj => by
    obtain rfl : x = y := by simpa using h
    rw [List.flatMap_cons, Nat.zero_mul, Nat.zero_add, List.getElem?_append_left (by rw [hc]; exact hj)]
  | x :: l, k + 1, j, y, h, hj => by
    rw [List.flatMap_cons, List.getElem?_append_right (by rw [hc, Nat.add_mul]; omega), hc]
    have e : (k + 1) * size + j - size = k * size + j := by rw [Nat.add_mul]; omega
    rw [e]
    exact flat_get cells hc l k j y (by simpa using h) hj
theorem flat_length {α : Type} (cells : α → List Value) {size : Nat} (hc : ∀ y, (cells y).length = size) (l : List α) : (l.flatMap cells).length = l.length * size := by
  induction l with
  | nil => simp
  | cons y l ih => rw [List.flatMap_cons, List.length_append, hc, ih, List.length_cons, Nat.add_mul]; omega
theorem tokCells_length (l : List Tok) : (tokCells l).length = l.length * 5 := flat_length Tok.cells (fun _ => rfl) l
/-- A slice of tokens that is read. -/
abbrev RdT (w : World) (B : Nat) (A : Option Addr) (n : Nat) (l : List Tok) : Prop := Rd w B 5 A n (tokCells l)
theorem Rd.tokLen {w : World} {B n : Nat} {A : Option Addr} {l : List Tok} (h : RdT w B A n l) : l.length = n := by
  have := h.len; rw [tokCells_length] at this; omega
theorem Rd.tokAt {w : World} {B n : Nat} {A : Option Addr} {l : List Tok} (h : RdT w B A n l) {k : Nat} (hk : k < n) :
    ∃ b o t, A = some ⟨b, o, none⟩ ∧ b < B ∧ l[k]? = some t ∧ w.cell? ⟨b, o + k * 5, none⟩ = some (.int .i64 t.kind) ∧ w.cell? ⟨b, o + k * 5 + 1, none⟩ = some (.string t.text) ∧
      w.cell? ⟨b, o + k * 5 + 2, none⟩ = some (.int .u64 t.num) ∧ w.cell? ⟨b, o + k * 5 + 3, none⟩ = some (.int .i64 t.at_) ∧ w.cell? ⟨b, o + k * 5 + 4, none⟩ = some (.int .i64 t.line) := by
  obtain ⟨b, o, e, hb, hc⟩ := h.at_ (by omega)
  have hl : k < l.length := by rw [h.tokLen]; exact hk
  have hy := List.getElem?_eq_getElem hl
  have hf := fun j hj => flat_get Tok.cells (size := 5) (fun _ => rfl) l k j _ hy hj
  refine ⟨b, o, l[k]'hl, e, hb, hy, ?_, ?_, ?_, ?_, ?_⟩
  · exact hc (k * 5) _ (by rw [← Nat.add_zero (k * 5)]; exact hf 0 (by omega))
  · exact hc (k * 5 + 1) _ (hf 1 (by omega))
  · exact hc (k * 5 + 2) _ (hf 2 (by omega))
  · exact hc (k * 5 + 3) _ (hf 3 (by omega))
  · exact hc (k * 5 + 4) _ (hf 4 (by omega))

def isDigit (c : Nat) : Bool := decide (48 ≤ c ∧ c ≤ 57)
def isLetter (c : Nat) : Bool := decide ((97 ≤ c ∧ c ≤ 122) ∨ (65 ≤ c ∧ c ≤ 90) ∨ c = 95)
def signRunes : List Nat := [8592, 43, 45, 215, 37, 61, 60, 91, 93, 58, 36, 44]
def isSign (c : Nat) : Bool := signRunes.contains c
/-- A run's number, digit by digit. -/
def numGo : List UInt8 → Nat → Option Nat
  | [], n => some n
  | c :: r, n => if isDigit c.toNat then (if (18446744073709551615 - (c.toNat - 48)) / 10 < n then none else numGo r (10 * n + (c.toNat - 48))) else none
def numP (l : List UInt8) : Option Nat := if 1 < l.length ∧ l[0]? = some 48 then none else numGo l 0

/-- What has been read: the tokens, the line, from where on a run stands (-1: none), whether a remark is read. -/
structure LSt where
  list : List Tok
  line : Nat
  from_ : Option Nat
  remark : Bool
def LSt.fromI (st : LSt) : Int := match st.from_ with
  | some k => (k : Int)
  | none => -1
def putP (st : LSt) (t : Tok) : Int × LSt := if 16384 ≤ st.list.length then (3, st) else (0, { st with list := st.list ++ [{ t with line := st.line }] })
def headIs (w : ByteArray) : Bool := match w.data.toList with
  | c :: _ => isDigit c.toNat
  | [] => false
def shutP (s : ByteArray) (to : Nat) (st : LSt) : Int × Int × LSt := match st.from_ with
  | none => (0, 0, st)
  | some a =>
    let w := s.extract a to
    let st1 : LSt := { st with from_ := none }
    if headIs w then match numP w.data.toList with
      | none => (a, 22, st1)
      | some n => ((a : Int), putP st1 { kind := 1, text := ⟨#[]⟩, num := n, at_ := a, line := 0 })
    else if 24 < w.size then (a, 21, st1) else ((a : Int), putP st1 { kind := 0, text := w, num := 0, at_ := a, line := 0 })
def runeP (s : ByteArray) (at_ c : Nat) (st : LSt) : Int × Int × LSt :=
  if (isLetter c || isDigit c || (c == 46 && st.from_.isSome)) && !st.remark then (0, 0, if st.from_.isSome then st else { st with from_ := some at_ })
  else match shutP s at_ st with
    | (p, e, st1) => if e ≠ 0 then (p, e, st1)
      else if c = 10 then match putP { st1 with remark := false } { kind := 3, text := ⟨#[]⟩, num := 0, at_ := at_, line := 0 } with
        | (e, st2) => (at_, e, { st2 with line := st2.line + 1 })
      else if st1.remark ∨ c = 32 ∨ c = 9 ∨ c = 13 then (0, 0, st1)
      else if c = 35 then (0, 0, { st1 with remark := true })
      else if isSign c then ((at_ : Int), putP st1 { kind := 2, text := Utf8.encode (c : Int), num := 0, at_ := at_, line := 0 })
      else (at_, 20, st1)
def lexGo (s : ByteArray) : Nat → Nat → LSt → List Tok × Int × Int
  | 0, _, _ => ([], 0, 0)
  | f + 1, pos, st => if pos < s.size then match runeP s pos (Utf8.decode s pos).1 st with
      | (p, e, st1) => if e ≠ 0 then ([], p, e) else lexGo s f (pos + (Utf8.decode s pos).2) st1
    else match shutP s s.size st with
      | (p, e, st1) => if e ≠ 0 then ([], p, e) else (st1.list, 0, 0)
/-- A text's tokens, the place of the fault, the error's number. -/
def lexP (s : ByteArray) : List Tok × Int × Int := if 65536 < s.size then ([], 0, 2) else lexGo s (s.size + 1) 0 { list := [], line := 0, from_ := none, remark := false }

/-- Lines of tokens, and what is left. -/
def linesGo : List Tok → List Tok → List (List Tok)
  | [], line => if line = [] then [] else [line]
  | t :: r, line => if t.kind = 3 then line :: linesGo r [] else linesGo r (line ++ [t])
def linesP (l : List Tok) : List (List Tok) := linesGo l []
end Go.Proofs.YthdlihiehfkceaaDoor

namespace Go.Proofs.YthdlihiehfkceaaDoor
open Go.RowKit
set_option linter.unusedVariables false

/-- A register's name. -/
def regName (n : Nat) : ByteArray := if n < 10 then ⟨#[114, UInt8.ofNat (48 + n)]⟩ else ⟨#[114, 49, UInt8.ofNat (38 + n)]⟩
def regGo (s : ByteArray) : Nat → Nat → Int
  | 0, _ => -1
  | f + 1, k => if s = regName k then (k : Int) else regGo s f (k + 1)
/-- A register's number; -1: the word is none. -/
def regP (s : ByteArray) : Int := regGo s 16 0
theorem regGo_range (s : ByteArray) : ∀ f k, regGo s f k = -1 ∨ ((k : Int) ≤ regGo s f k ∧ regGo s f k < (k + f : Nat))
  | 0, k => .inl rfl
  | f + 1, k => by
    rw [regGo]
    split
    · right; omega
    · rcases regGo_range s f (k + 1) with h | h
      · exact .inl h
      · right; omega
theorem regP_range (s : ByteArray) : -1 ≤ regP s ∧ regP s < 16 := by
  have h : regP s = -1 ∨ (((0 : Nat) : Int) ≤ regP s ∧ regP s < ((0 + 16 : Nat) : Int)) := regGo_range s 16 0
  omega
/-- A capital's word. -/
def wordP (c : Nat) : ByteArray :=
  if c = 65 then ⟨#[97, 114, 103]⟩ else if c = 82 then ⟨#[114, 111, 111, 116]⟩ else if c = 78 then ⟨#[110, 101, 119]⟩ else if c = 70 then ⟨#[102, 114, 101, 101]⟩ else if c = 71 then ⟨#[103, 111]⟩ else
  if c = 90 then ⟨#[122, 101, 114, 111]⟩ else if c = 66 then ⟨#[98, 97, 99, 107]⟩ else if c = 84 then ⟨#[114, 101, 116]⟩ else if c = 88 then ⟨#[97, 98, 111, 114, 116]⟩ else ⟨#[]⟩
def keyRunes : List Nat := [65, 82, 78, 70, 71, 90, 66, 84, 88]
/-- Has a word a meaning of its own? -/
def keyP (s : ByteArray) : Bool := keyRunes.any fun c => wordP c = s
/-- May a word be a label's name? -/
def freeP (s : ByteArray) : Bool := !keyP s && decide (regP s < 0)
/-- How a kind's line is written. -/
def formP (op : Int) : List Nat :=
  if op = 0 then [97, 8592, 105] else if op = 1 then [97, 8592, 98] else if op = 2 then [97, 8592, 98, 43, 99] else if op = 3 then [97, 8592, 98, 45, 99] else if op = 4 then [97, 8592, 98, 215, 99] else
  if op = 5 then [97, 8592, 98, 37, 99] else if op = 6 then [97, 8592, 98, 61, 99] else if op = 7 then [97, 8592, 98, 60, 99] else if op = 8 then [97, 8592, 65, 105] else if op = 9 then [97, 8592, 82, 98] else
  if op = 10 then [82, 98, 8592, 97] else if op = 11 then [97, 8592, 91, 98, 43, 105, 93] else if op = 12 then [97, 8592, 91, 98, 43, 99, 93] else if op = 13 then [91, 98, 43, 105, 93, 8592, 97] else
  if op = 14 then [91, 98, 43, 99, 93, 8592, 97] else if op = 15 then [97, 8592, 78] else if op = 16 then [70, 97] else if op = 17 then [71, 108] else if op = 18 then [90, 97, 108] else
  if op = 19 then [66, 97, 108] else if op = 20 then [84, 97] else [88, 105]
/-- A form's text. -/
def encs (l : List Nat) : ByteArray := l.foldl (fun (a : ByteArray) (c : Nat) => a ++ Utf8.encode (c : Int)) ⟨#[]⟩
def formText (op : Int) : ByteArray := encs (formP op)
/-- An instruction, the name of the label that it goes to, and where it stands. -/
structure Ord where
  i : Ins
  name : ByteArray
  at_ : Int
def Ord.cells (o : Ord) : List Value := o.i.cells ++ [.string o.name, .int .i64 o.at_]
def takeP (c : Nat) (t : Tok) (o : Ord) : Ord × Bool :=
  let n : Int := if t.kind = 0 then regP t.text else -1
  if c = 97 then ({ o with i := { o.i with a := n } }, decide (0 ≤ n))
  else if c = 98 then ({ o with i := { o.i with b := n } }, decide (0 ≤ n))
  else if c = 99 then ({ o with i := { o.i with c := n } }, decide (0 ≤ n))
  else if c = 105 then ({ o with i := { o.i with imm := t.num } }, decide (t.kind = 1))
  else if c = 108 then ({ o with name := t.text }, decide (t.kind = 0) && freeP t.text)
  else if wordP c ≠ ⟨#[]⟩ then (o, decide (t.kind = 0) && decide (t.text = wordP c))
  else (o, decide (t.kind = 2) && decide (t.text = Utf8.encode (c : Int)))
def matchGo : List Nat → List Tok → Ord → Option Ord
  | [], l, o => if l = [] then some o else none
  | _ :: _, [], _ => none
  | c :: r, t :: l, o => if (takeP c t o).2 then matchGo r l (takeP c t o).1 else none
def ord0 (op : Int) (l : List Tok) : Ord := { i := ⟨op, 0, 0, 0, 0⟩, name := ⟨#[]⟩, at_ := (l.head?.map Tok.at_).getD 0 }
/-- A line read as one of a kind. -/
def matchP (op : Int) (l : List Tok) : Option Ord := matchGo (formP op) l (ord0 op l)
/-- A line that means something: a label, or an instruction. -/
inductive Lin where
  | mark (name : ByteArray) (at_ : Int)
  | order (o : Ord)
def isMark (l : List Tok) : Option (ByteArray × Int) := match l with
  | [x, y] => if x.kind = 0 ∧ freeP x.text = true ∧ y.kind = 2 ∧ y.text = ⟨#[58]⟩ then some (x.text, x.at_) else none
  | _ => none
def opsGo (l : List Tok) : Nat → Nat → Option Ord
  | 0, _ => none
  | f + 1, k => match matchP (k : Int) l with
    | some o => some o
    | none => opsGo l f (k + 1)
def parseP (l : List Tok) : Option Lin := match isMark l with
  | some (s, a) => some (.mark s a)
  | none => (opsGo l 22 0).map .order
def Lin.at_ : Lin → Int
  | .mark _ a => a
  | .order o => o.at_
/-- All orders, and where each label stands. -/
structure Prg where
  orders : List Ord
  labels : List (ByteArray × Nat)
def Prg.find (p : Prg) (s : ByteArray) : Option Nat := (p.labels.find? fun x => decide (x.1 = s)).map Prod.snd
def addP (p : Prg) : Lin → Prg × Int
  | .mark s _ => if (p.find s).isSome then (p, 5) else ({ p with labels := p.labels ++ [(s, p.orders.length)] }, 0)
  | .order o => if 256 ≤ p.orders.length then (p, 3) else ({ p with orders := p.orders ++ [o] }, 0)
def forthP (op from_ to : Int) : Bool := if op = 19 then decide (to ≤ from_) else decide (from_ < to)
def readGo : List (List Tok) → Prg → Prg × Int × Int
  | [], p => (p, 0, 0)
  | l :: r, p => if l = [] then readGo r p else match parseP l with
    | none => (p, (l.head?.map Tok.at_).getD 0, 23)
    | some x => if (addP p x).2 ≠ 0 then (p, x.at_, (addP p x).2) else readGo r (addP p x).1
def codeGo (p : Prg) : List Ord → Nat → List Ins → List Ins × Int × Int
  | [], _, out => (out, 0, 0)
  | o :: r, k, out => if o.name = ⟨#[]⟩ then codeGo p r (k + 1) (out ++ [o.i]) else match p.find o.name with
    | none => ([], o.at_, 24)
    | some to => if forthP o.i.op k to then codeGo p r (k + 1) (out ++ [{ o.i with imm := (to : Int) }]) else ([], o.at_, 24)
/-- A text's program, the place of the fault, the error's number. -/
def asmP (s : ByteArray) : List Ins × Int × Int := match lexP s with
  | (l, a, e) => if e ≠ 0 then ([], a, e) else match readGo (linesP l) ⟨[], []⟩ with
    | (p, a, e) => if e ≠ 0 then ([], a, e) else codeGo p p.orders 0 []
def goesP (op : Int) : Bool := decide (op = 17) || decide (op = 18) || decide (op = 19)
end Go.Proofs.YthdlihiehfkceaaDoor

namespace Go.Proofs.YthdlihiehfkceaaDoor
open Go.RowKit
set_option linter.unusedVariables false

theorem letter_any (c : Nat) (w : World) : Calls Tryd.prog 70 #[.int .i32 c] w fun e w' => e = .returned (.bool (isLetter c)) ∧ w = w' := by
  go_enter Tryd.func70, Tryd.ntmps70
  go_wp2
  all_goals go_ret
  all_goals refine ⟨ret_bool ?_, rfl⟩
  all_goals (rw [Bool.eq_iff_iff]; simp_all [isLetter]; try omega)
theorem digit_any (c : Nat) (w : World) : Calls Tryd.prog 71 #[.int .i32 c] w fun e w' => e = .returned (.bool (isDigit c)) ∧ w = w' := by
  go_enter Tryd.func71, Tryd.ntmps71
  go_wp2
  all_goals go_ret
  all_goals refine ⟨ret_bool ?_, rfl⟩
  all_goals (rw [Bool.eq_iff_iff]; simp_all [isDigit]; try omega)

/-- The constant of all signs, and where its runes stand. -/
def signText : ByteArray := ⟨#[226, 134, 144, 43, 45, 195, 151, 37, 61, 60, 91, 93, 58, 36, 44]⟩
def signAt (k : Nat) : Nat := [0, 3, 4, 5, 7, 8, 9, 10, 11, 12, 13, 14, 15].getD k 0
theorem sign_dec : ∀ k : Fin 12, signAt k.val < signText.size ∧ Utf8.decode signText (signAt k.val) = (signRunes.getD k.val 0, signAt (k.val + 1) - signAt k.val) ∧ signAt k.val < signAt (k.val + 1) := by decide +kernel
theorem isSign_mem {c : Nat} : isSign c = true ↔ ∃ k, k < 12 ∧ signRunes.getD k 0 = c := by
  unfold isSign
  rw [List.contains_iff_mem, List.mem_iff_getElem]
  constructor
  · rintro ⟨k, hk, e⟩
    exact ⟨k, hk, by rw [List.getD_eq_getElem?_getD, List.getElem?_eq_getElem hk]; exact e⟩
  · rintro ⟨k, hk, e⟩
    have hk' : k < signRunes.length := hk
    refine ⟨k, hk', ?_⟩
    rw [List.getD_eq_getElem?_getD, List.getElem?_eq_getElem hk'] at e
    exact e

set_option maxHeartbeats 4000000 in
theorem sign_any (c : Nat) (hc : c ≤ 2147483647) (w : World) : Calls Tryd.prog 73 #[.int .i32 c] w fun e w' => e = .returned (.bool (isSign c)) ∧ Below w.heap.size w w' := by
  go_enter Tryd.func73, Tryd.ntmps73
  go_wp2
  go_loopw [4] (fun _u wr => ∃ k : Nat, k ≤ 12 ∧ Hid (∀ j, j < k → signRunes.getD j 0 ≠ c) ∧ wr.heap[w.heap.size]? = some (.stringIter signText (signAt k)) ∧ Below w.heap.size w wr) (fun _ wr => 15 - wr.iterPos w.heap.size)
  case atStart => exact ⟨0, by omega, fun j hj => by omega, World.iter_heap w signText 0, (Below.refl _ _).alloc (Nat.le_refl _) _⟩
  case round =>
    obtain ⟨k, hk, HN, hit, hb⟩ := hrel
    have HB := Lib.hid hb
    have HI := Lib.hid hit
    clear hb hit
    by_cases hlt : k < 12
    · obtain ⟨h1, h2, h3⟩ : signAt k < signText.size ∧ Utf8.decode signText (signAt k) = (signRunes.getD k 0, signAt (k + 1) - signAt k) ∧ signAt k < signAt (k + 1) := sign_dec ⟨k, hlt⟩
      have hnx : ∀ ty, (Instr.next (.pointer (some ⟨w.heap.size, 0, none⟩)) true ty).run Tryd.prog wr = _ := fun ty => Lib.run_next_any_at wr w.heap.size signText (signAt k) ty HI.out h1
      rw [h2] at hnx
      simp only at hnx
      have hit2 := Lib.hid (Lib.iterAt_heap wr w.heap.size signText (signAt k) (signAt (k + 1)) HI.out)
      have hb2 := Lib.hid (Lib.below_iterAt HB.out (k := w.heap.size) (Nat.le_refl _) signText (signAt (k + 1)))
      have e : signAt k + (signAt (k + 1) - signAt k) = signAt (k + 1) := by omega
      rw [e] at hnx
      have H3 := Lib.hid h3
      have H1 : Hid (signAt (k + 1) ≤ 15) := by
        show _ ≤ _
        have : ∀ q : Fin 13, signAt q.val ≤ 15 := by decide
        exact this ⟨k + 1, by omega⟩
      clear h2 h3 e h1
      obtain ⟨r, hr⟩ : ∃ r, signRunes.getD k 0 = r := ⟨_, rfl⟩
      rw [hr] at hnx
      have HR := Lib.hid hr
      clear hr
      by_cases hcr : r = c
      · subst hcr
        have E : Hid (isSign r = true) := isSign_mem.2 ⟨k, hlt, HR.out⟩
        go_wp2
        go_ret
        exact ⟨ret_bool E.out.symm, hb2.out⟩
      · have hne : ((r : Int) == (c : Int)) = false := by simp; omega
        have HN2 : Hid (∀ j, j < k + 1 → signRunes.getD j 0 ≠ c) := fun j hj => by
          by_cases e : j = k
          · rw [e, HR.out]; exact hcr
          · exact HN.out j (by omega)
        go_wp2
        go_roundw
        case rel => exact ⟨k + 1, by omega, HN2, hit2.out, hb2.out⟩
        case measure =>
          have h3 := H3.out
          have h1 := H1.out
          simp only [World.iterPos, hit2.out, HI.out]
          omega
    · obtain rfl : k = 12 := by omega
      have E : Hid (isSign c = false) := by
        show _ = _
        rw [Bool.eq_false_iff]
        intro h
        obtain ⟨j, hj, e⟩ := isSign_mem.1 h
        exact HN.out j hj e
      have hnx : ∀ ty, (Instr.next (.pointer (some ⟨w.heap.size, 0, none⟩)) true ty).run Tryd.prog wr = _ := fun ty => Lib.run_next_end_at wr w.heap.size signText (signAt 12) ty HI.out (by decide)
      go_wp2
      go_ret
      exact ⟨ret_bool E.out.symm, HB.out⟩
end Go.Proofs.YthdlihiehfkceaaDoor

namespace Go.Proofs.YthdlihiehfkceaaDoor
open Go.RowKit
set_option linter.unusedVariables false

theorem a_toList_inj {a b : ByteArray} (h : a.toList = b.toList) : a = b := by
  rw [ByteArray.toList_eq, ByteArray.toList_eq] at h
  exact ByteArray.ext (Array.toList_inj.1 h)
theorem bytes_eq (a b : ByteArray) : (a.toList == b.toList) = decide (a = b) := by
  rw [Bool.eq_iff_iff, beq_iff_eq, decide_eq_true_iff]
  exact ⟨a_toList_inj, fun h => by rw [h]⟩
theorem a_dec_small {m : Nat} (h : m < 10) : Lib.decDigits m = [UInt8.ofNat (48 + m)] := by rw [Lib.decDigits, dif_pos h]
theorem a_dec_big {m : Nat} (h : ¬ m < 10) : Lib.decDigits m = Lib.decDigits (m / 10) ++ [UInt8.ofNat (48 + m % 10)] := by rw [Lib.decDigits, dif_neg h]
theorem regName_is {n : Nat} (h : n < 16) : (⟨#[114]⟩ : ByteArray) ++ ⟨(Lib.decDigits n).toArray⟩ = regName n := by
  apply ByteArray.ext
  apply Array.toList_inj.1
  rw [ByteArray.data_append, Array.toList_append]
  by_cases h10 : n < 10
  · rw [a_dec_small h10, regName, if_pos h10]; rfl
  · rw [a_dec_big h10, a_dec_small (by omega), regName, if_neg h10, show n / 10 = 1 by omega, show 48 + n % 10 = 38 + n by omega]; rfl

set_option maxHeartbeats 4000000 in
theorem register_any (s : ByteArray) (w : World) : Calls Tryd.prog 75 #[.string s] w fun e w' => e = .returned (.int .i64 (regP s)) ∧ w' = w := by
  go_enter Tryd.func75, Tryd.ntmps75
  go_wp2
  go_loopw [4] (fun i wr => ∃ k : Nat, (k ≤ 16 ∧ i = .int .i64 k) ∧ Hid (regGo s (16 - k) k = regP s) ∧ wr = w) (fun i _ => 16 - (intOf i).toNat)
  case atStart => exact ⟨0, ⟨by omega, rfl⟩, rfl, rfl⟩
  case round =>
    obtain ⟨k, ⟨hk, rfl⟩, HG, rfl⟩ := hrel
    by_cases hlt : k < 16
    · have hlti : (k : Int) < 16 := by omega
      have hg := HG.out
      rw [show 16 - k = (16 - (k + 1)) + 1 by omega, regGo] at hg
      have hbq := bytes_eq s (regName k)
      have hdl : (Lib.decDigits k).length ≤ 20 := by rw [Lib.decDigits_length]; exact Lib.nDigits_le20 k (by omega)
      rw [← regName_is hlt] at hbq
      by_cases he : s = regName k
      · rw [if_pos he] at hg
        rw [← regName_is hlt] at he
        rw [decide_eq_true he] at hbq
        have HE := Lib.hid hg
        clear hg he
        go_wp2_with (go_at_call 47; refine (Tryd.strconv_Itoa_small k (by omega) _).mono ?_; rintro e w' ⟨rfl, rfl⟩)
        go_ret
        exact ⟨ret_int HE.out, rfl⟩
      · rw [if_neg he] at hg
        rw [← regName_is hlt] at he
        rw [decide_eq_false he] at hbq
        have HE := Lib.hid hg
        clear hg he
        go_wp2_with (go_at_call 47; refine (Tryd.strconv_Itoa_small k (by omega) _).mono ?_; rintro e w' ⟨rfl, rfl⟩)
        go_roundw
        case rel => exact ⟨k + 1, ⟨by omega, by go_num⟩, HE, trivial⟩
        case measure => simp [intOf]; omega
    · obtain rfl : k = 16 := by omega
      have HE : Hid (regP s = -1) := HG.out.symm
      go_wp2
      go_ret
      exact ⟨ret_int HE.out.symm, rfl⟩

set_option maxHeartbeats 4000000 in
theorem word_any (c : Nat) (w : World) : Calls Tryd.prog 49 #[.int .i32 c] w fun e w' => e = .returned (.string (wordP c)) ∧ w' = w := by
  by_cases h : c = 65 ∨ c = 82 ∨ c = 78 ∨ c = 70 ∨ c = 71 ∨ c = 90 ∨ c = 66 ∨ c = 84 ∨ c = 88
  · rcases h with rfl | rfl | rfl | rfl | rfl | rfl | rfl | rfl | rfl
    all_goals
      go_enter Tryd.func49, Tryd.ntmps49
      go_wp2
      go_ret
      exact ⟨rfl, rfl⟩
  · have HE : Hid (wordP c = ⟨#[]⟩) := by
      show _ = _
      unfold wordP
      rw [if_neg (by omega), if_neg (by omega), if_neg (by omega), if_neg (by omega), if_neg (by omega), if_neg (by omega), if_neg (by omega), if_neg (by omega), if_neg (by omega)]
    have e : ∀ k : Nat, c ≠ k → ((c : Int) == (k : Int)) = false := fun k hk => beq_eq_false_iff_ne.2 (by omega)
    have e65 : ((c : Int) == 65) = false := e 65 (by omega)
    have e82 : ((c : Int) == 82) = false := e 82 (by omega)
    have e78 : ((c : Int) == 78) = false := e 78 (by omega)
    have e70 : ((c : Int) == 70) = false := e 70 (by omega)
    have e71 : ((c : Int) == 71) = false := e 71 (by omega)
    have e90 : ((c : Int) == 90) = false := e 90 (by omega)
    have e66 : ((c : Int) == 66) = false := e 66 (by omega)
    have e84 : ((c : Int) == 84) = false := e 84 (by omega)
    have e88 : ((c : Int) == 88) = false := e 88 (by omega)
    clear e h
    go_enter Tryd.func49, Tryd.ntmps49
    go_wp2
    go_ret
    refine ⟨?_, rfl⟩
    rw [HE.out]; rfl

def keyText : ByteArray := ⟨#[65, 82, 78, 70, 71, 90, 66, 84, 88]⟩
theorem key_dec : ∀ k : Fin 9, k.val < keyText.size ∧ Utf8.decode keyText k.val = (keyRunes.getD k.val 0, 1) := by decide +kernel
theorem keyP_mem {s : ByteArray} : keyP s = true ↔ ∃ k, k < 9 ∧ wordP (keyRunes.getD k 0) = s := by
  unfold keyP
  rw [List.any_eq_true]
  constructor
  · rintro ⟨c, hc, e⟩
    obtain ⟨k, hk, rfl⟩ := List.mem_iff_getElem.1 hc
    exact ⟨k, hk, by rw [List.getD_eq_getElem?_getD, List.getElem?_eq_getElem hk]; exact of_decide_eq_true e⟩
  · rintro ⟨k, hk, e⟩
    have hk' : k < keyRunes.length := hk
    rw [List.getD_eq_getElem?_getD, List.getElem?_eq_getElem hk'] at e
    exact ⟨_, List.getElem_mem hk', decide_eq_true e⟩

set_option maxHeartbeats 4000000 in
theorem free_any (s : ByteArray) (w : World) : Calls Tryd.prog 56 #[.string s] w fun e w' => e = .returned (.bool (freeP s)) ∧ Below w.heap.size w w' := by
  go_enter Tryd.func56, Tryd.ntmps56
  go_wp2
  go_loopw [4] (fun _u wr => ∃ k : Nat, k ≤ 9 ∧ Hid (∀ j, j < k → wordP (keyRunes.getD j 0) ≠ s) ∧ wr.heap[w.heap.size]? = some (.stringIter keyText k) ∧ Below w.heap.size w wr) (fun _ wr => 9 - wr.iterPos w.heap.size)
  case atStart => exact ⟨0, by omega, fun j hj => by omega, World.iter_heap w keyText 0, (Below.refl _ _).alloc (Nat.le_refl _) _⟩
  case round =>
    obtain ⟨k, hk, HN, hit, hb⟩ := hrel
    have HB := Lib.hid hb
    have HI := Lib.hid hit
    clear hb hit
    by_cases hlt : k < 9
    · obtain ⟨h1, h2⟩ : k < keyText.size ∧ Utf8.decode keyText k = (keyRunes.getD k 0, 1) := key_dec ⟨k, hlt⟩
      have hnx : ∀ ty, (Instr.next (.pointer (some ⟨w.heap.size, 0, none⟩)) true ty).run Tryd.prog wr = _ := fun ty => Lib.run_next_any_at wr w.heap.size keyText k ty HI.out h1
      rw [h2] at hnx
      simp only at hnx
      have hit2 := Lib.hid (Lib.iterAt_heap wr w.heap.size keyText k (k + 1) HI.out)
      have hb2 := Lib.hid (Lib.below_iterAt HB.out (k := w.heap.size) (Nat.le_refl _) keyText (k + 1))
      clear h2 h1
      obtain ⟨r, hr⟩ : ∃ r, keyRunes.getD k 0 = r := ⟨_, rfl⟩
      rw [hr] at hnx
      have HR := Lib.hid hr
      clear hr
      have hbq := bytes_eq (wordP r) s
      by_cases hcr : wordP r = s
      · have E : Hid (freeP s = false) := by
          show _ = _
          unfold freeP
          rw [keyP_mem.2 ⟨k, hlt, by rw [HR.out]; exact hcr⟩]
          rfl
        rw [decide_eq_true hcr] at hbq
        clear hcr
        obtain ⟨W, hW⟩ : ∃ W, wordP r = W := ⟨_, rfl⟩
        rw [hW] at hbq
        have HW := Lib.hid hW
        clear hW
        go_wp2_with (go_at_call 49; refine (word_any _ _).mono ?_; rintro e w' ⟨rfl, rfl⟩; rw [HW.out])
        go_ret
        exact ⟨ret_bool E.out.symm, hb2.out⟩
      · have HN2 : Hid (∀ j, j < k + 1 → wordP (keyRunes.getD j 0) ≠ s) := fun j hj => by
          by_cases e : j = k
          · rw [e, HR.out]; exact hcr
          · exact HN.out j (by omega)
        rw [decide_eq_false hcr] at hbq
        clear hcr
        obtain ⟨W, hW⟩ : ∃ W, wordP r = W := ⟨_, rfl⟩
        rw [hW] at hbq
        have HW := Lib.hid hW
        clear hW
        go_wp2_with (go_at_call 49; refine (word_any _ _).mono ?_; rintro e w' ⟨rfl, rfl⟩; rw [HW.out])
        go_roundw
        case rel => exact ⟨k + 1, by omega, HN2, hit2.out, hb2.out⟩
        case measure =>
          simp only [World.iterPos, hit2.out, HI.out]
          omega
    · obtain rfl : k = 9 := by omega
      have E : Hid (freeP s = decide (regP s < 0)) := by
        show _ = _
        have : keyP s = false := by
          rw [Bool.eq_false_iff]
          intro h
          obtain ⟨j, hj, e⟩ := keyP_mem.1 h
          exact HN.out j hj e
        unfold freeP
        rw [this]; rfl
      have hnx : ∀ ty, (Instr.next (.pointer (some ⟨w.heap.size, 0, none⟩)) true ty).run Tryd.prog wr = _ := fun ty => Lib.run_next_end_at wr w.heap.size keyText 9 ty HI.out (by decide)
      have hrr := regP_range s
      obtain ⟨q, hq⟩ : ∃ q, regP s = q := ⟨_, rfl⟩
      have HQ := Lib.hid hq
      rw [hq] at hrr
      clear hq
      go_wp2_with (go_at_call 75; refine (register_any _ _).mono ?_; rintro e w' ⟨rfl, rfl⟩; rw [HQ.out])
      go_ret
      exact ⟨ret_bool (by rw [E.out, HQ.out]), HB.out⟩

theorem aother_any (n : Int) (w : World) (h : ¬ (0 ≤ n ∧ n ≤ 10)) : Calls Tryd.prog 48 #[.int .i64 n] w fun e w' => e = .returned (.string (formText n)) ∧ w' = w := by
  by_cases hn : 11 ≤ n ∧ n ≤ 20
  · obtain ⟨h1, h2⟩ := hn
    obtain rfl | rfl | rfl | rfl | rfl | rfl | rfl | rfl | rfl | rfl : n = 11 ∨ n = 12 ∨ n = 13 ∨ n = 14 ∨ n = 15 ∨ n = 16 ∨ n = 17 ∨ n = 18 ∨ n = 19 ∨ n = 20 := by omega
    all_goals
      clear h
      go_enter Tryd.func48, Tryd.ntmps48
      go_wp2
      go_ret
      exact ⟨rfl, rfl⟩
  · have HE : Hid (formText n = ⟨#[88, 105]⟩) := by
      show _ = _
      have hf : formP n = [88, 105] := by
        unfold formP
        rw [if_neg (by omega), if_neg (by omega), if_neg (by omega), if_neg (by omega), if_neg (by omega), if_neg (by omega), if_neg (by omega), if_neg (by omega), if_neg (by omega), if_neg (by omega), if_neg (by omega), if_neg (by omega), if_neg (by omega), if_neg (by omega), if_neg (by omega), if_neg (by omega), if_neg (by omega), if_neg (by omega), if_neg (by omega), if_neg (by omega), if_neg (by omega)]
      unfold formText
      rw [hf]; rfl
    have e : ∀ k : Int, 11 ≤ k → k ≤ 20 → (n == k) = false := fun k h1 h2 => beq_eq_false_iff_ne.2 (by omega)
    have e11 := e 11 (by omega) (by omega)
    have e12 := e 12 (by omega) (by omega)
    have e13 := e 13 (by omega) (by omega)
    have e14 := e 14 (by omega) (by omega)
    have e15 := e 15 (by omega) (by omega)
    have e16 := e 16 (by omega) (by omega)
    have e17 := e 17 (by omega) (by omega)
    have e18 := e 18 (by omega) (by omega)
    have e19 := e 19 (by omega) (by omega)
    have e20 := e 20 (by omega) (by omega)
    clear e hn h
    go_enter Tryd.func48, Tryd.ntmps48
    go_wp2
    go_ret
    refine ⟨?_, rfl⟩
    rw [HE.out]; rfl
theorem aform_any (n : Int) (w : World) : Calls Tryd.prog 24 #[.int .i64 n] w fun e w' => e = .returned (.string (formText n)) ∧ w' = w := by
  by_cases hn : 0 ≤ n ∧ n ≤ 10
  · obtain ⟨h1, h2⟩ := hn
    obtain rfl | rfl | rfl | rfl | rfl | rfl | rfl | rfl | rfl | rfl | rfl : n = 0 ∨ n = 1 ∨ n = 2 ∨ n = 3 ∨ n = 4 ∨ n = 5 ∨ n = 6 ∨ n = 7 ∨ n = 8 ∨ n = 9 ∨ n = 10 := by omega
    all_goals
      go_enter Tryd.func24, Tryd.ntmps24
      go_wp2
      go_ret
      exact ⟨rfl, rfl⟩
  · have e : ∀ k : Int, 0 ≤ k → k ≤ 10 → (n == k) = false := fun k h1 h2 => beq_eq_false_iff_ne.2 (by omega)
    have e0 := e 0 (by omega) (by omega)
    have e1 := e 1 (by omega) (by omega)
    have e2 := e 2 (by omega) (by omega)
    have e3 := e 3 (by omega) (by omega)
    have e4 := e 4 (by omega) (by omega)
    have e5 := e 5 (by omega) (by omega)
    have e6 := e 6 (by omega) (by omega)
    have e7 := e 7 (by omega) (by omega)
    have e8 := e 8 (by omega) (by omega)
    have e9 := e 9 (by omega) (by omega)
    have e10 := e 10 (by omega) (by omega)
    have HN := Lib.hid hn
    clear e hn
    go_enter Tryd.func24, Tryd.ntmps24
    go_wp2_with (go_at_call 48; refine (aother_any _ _ HN.out).mono ?_; rintro e w' ⟨rfl, rfl⟩)
    go_ret
    exact ⟨rfl, rfl⟩

theorem jumps_any (n : Int) (w : World) : Calls Tryd.prog 44 #[.int .i64 n] w fun e w' => e = .returned (.bool (goesP n)) ∧ w' = w := by
  by_cases h17 : n = 17
  · subst h17
    go_enter Tryd.func44, Tryd.ntmps44
    go_wp2
    go_ret
    exact ⟨rfl, rfl⟩
  · by_cases h18 : n = 18
    · subst h18
      clear h17
      go_enter Tryd.func44, Tryd.ntmps44
      go_wp2
      go_ret
      exact ⟨rfl, rfl⟩
    · have E : Hid (goesP n = decide (n = 19)) := by show _ = _; simp [goesP, h17, h18]
      have e17 : (n == 17) = false := by simp [h17]
      have e18 : (n == 18) = false := by simp [h18]
      by_cases h19 : n = 19
      · have e19 : (n == 19) = true := by simp [h19]
        go_enter Tryd.func44, Tryd.ntmps44
        go_wp2
        go_ret
        exact ⟨ret_bool (by rw [E.out]; simp [h19]), rfl⟩
      · have e19 : (n == 19) = false := by simp [h19]
        go_enter Tryd.func44, Tryd.ntmps44
        go_wp2
        go_ret
        exact ⟨ret_bool (by rw [E.out]; simp [h19]), rfl⟩
theorem forth_any (n f t : Int) (w : World) : Calls Tryd.prog 45 #[.int .i64 n, .int .i64 f, .int .i64 t] w fun e w' => e = .returned (.bool (forthP n f t)) ∧ w' = w := by
  by_cases h19 : n = 19
  · subst h19
    have E : Hid (forthP 19 f t = decide (t ≤ f)) := by show _ = _; simp [forthP]
    by_cases h : t ≤ f
    all_goals
      go_enter Tryd.func45, Tryd.ntmps45
      go_wp2
      go_ret
      exact ⟨ret_bool (by rw [E.out]; simp [h]), rfl⟩
  · have E : Hid (forthP n f t = decide (f < t)) := by show _ = _; simp [forthP, h19]
    have e19 : (n == 19) = false := by simp [h19]
    by_cases h : f < t
    · go_enter Tryd.func45, Tryd.ntmps45
      go_wp2
      go_ret
      exact ⟨ret_bool (by rw [E.out]; simp [h]), rfl⟩
    · go_enter Tryd.func45, Tryd.ntmps45
      go_wp2
      go_ret
      exact ⟨ret_bool (by rw [E.out]; simp [h]), rfl⟩
end Go.Proofs.YthdlihiehfkceaaDoor

namespace Go.Proofs.YthdlihiehfkceaaDoor
open Go.RowKit
set_option linter.unusedVariables false

def NumPost (s : ByteArray) (w : World) (e : Ending) (w' : World) : Prop :=
  e = .returned (.tuple #[.int .u64 ((numP s.data.toList).getD 0 : Nat), .bool (numP s.data.toList).isSome]) ∧ Below w.heap.size w w'
theorem NumPost.none {s : ByteArray} {w w' : World} (h : numP s.data.toList = none) (hb : Below w.heap.size w w') : NumPost s w (.returned (.tuple #[.int .u64 0, .bool false])) w' := by
  refine ⟨?_, hb⟩
  rw [h]; rfl
theorem NumPost.some {s : ByteArray} {w w' : World} {n : Nat} (h : numP s.data.toList = some n) (hb : Below w.heap.size w w') : NumPost s w (.returned (.tuple #[.int .u64 n, .bool true])) w' := by
  refine ⟨?_, hb⟩
  rw [h]; rfl
theorem drop_cons (s : ByteArray) (k : Nat) (h : k < s.size) : s.data.toList.drop k = s[k] :: s.data.toList.drop (k + 1) := by
  rw [List.drop_eq_getElem_cons (by simpa using h)]; rfl
theorem digit_is {c : Nat} {b : Bool} (w : World) (h : isDigit c = b) : Calls Tryd.prog 71 #[.int .i32 c] w fun e w' => e = .returned (.bool b) ∧ w = w' := by
  subst h; exact digit_any c w

set_option maxHeartbeats 4000000 in
theorem number_any (s : ByteArray) (hs : s.size ≤ maxLen) (w : World) : Calls Tryd.prog 74 #[.string s] w (NumPost s w) := by
  unfold maxLen at hs
  obtain ⟨l, hl⟩ : ∃ l, s.data.toList = l := ⟨_, rfl⟩
  have hll : l.length = s.size := by rw [← hl]; simp
  have h48 : ∀ h : 0 < s.size, l[0]? = some (s[0]'h) := fun h => by rw [← hl, Array.getElem?_toList]; exact Array.getElem?_eq_getElem (xs := s.data) h
  have hsplit : (1 < s.size ∧ ((∃ h : 0 < s.size, (s[0]'h).toNat = 48 ∧ Hid (numP l = none)) ∨ (∃ h : 0 < s.size, (s[0]'h).toNat ≠ 48 ∧ Hid (numP l = numGo l 0)))) ∨ (¬ 1 < s.size ∧ Hid (numP l = numGo l 0)) := by
    by_cases h1 : 1 < s.size
    · refine .inl ⟨h1, ?_⟩
      have h0 : 0 < s.size := by omega
      by_cases hz : (s[0]'h0).toNat = 48
      · refine .inl ⟨h0, hz, ?_⟩
        show _ = _
        have : s[0]'h0 = 48 := UInt8.toNat_inj.1 hz
        rw [numP, if_pos ⟨by omega, by rw [h48 h0, this]⟩]
      · refine .inr ⟨h0, hz, ?_⟩
        show _ = _
        rw [numP, if_neg]
        rintro ⟨_, e⟩
        rw [h48 h0] at e
        injection e with e
        exact hz (by rw [e]; rfl)
    · exact .inr ⟨h1, by show _ = _; rw [numP, if_neg (fun h => by omega)]⟩
  have HL := Lib.hid hl
  clear hll h48 hl
  rcases hsplit with ⟨h1, ⟨h0, hz, HX⟩ | ⟨h0, hz, HX⟩⟩ | ⟨h1, HX⟩
  · go_enter Tryd.func74, Tryd.ntmps74
    generalize hb : (s[0]'h0).toNat = b at hz
    subst hz
    go_wp2
    go_ret2
    exact .none (by rw [HL.out]; exact HX.out) (Below.refl _ _)
  all_goals
    obtain ⟨R, hR⟩ : ∃ R, numGo l 0 = R := ⟨_, rfl⟩
    rw [hR] at HX
    have HR0 := Lib.hid hR
    clear hR
    go_enter Tryd.func74, Tryd.ntmps74
    try (generalize hb0 : (s[0]'h0).toNat = b0 at hz
         have hz' : ((b0 : Int) == 48) = false := by simp; omega)
    go_wp2
    go_loopw [4, 6, 7] (fun t _u _v wr => ∃ pos n : Nat, (pos ≤ s.size ∧ t = .int .u64 n ∧ n ≤ 18446744073709551615) ∧ Hid (numGo (l.drop pos) n = R) ∧ wr.heap[w.heap.size]? = some (.stringIter s pos) ∧ Below w.heap.size w wr) (fun _ _ _ wr => s.size - wr.iterPos w.heap.size)
    case atStart => exact ⟨0, 0, ⟨by omega, rfl, by omega⟩, HR0, World.iter_heap w s 0, (Below.refl _ _).alloc (Nat.le_refl _) _⟩
    case round =>
      obtain ⟨pos, n, ⟨hpos, rfl, hn⟩, HN, hit, hb⟩ := hrel
      have HB := Lib.hid hb
      have HI := Lib.hid hit
      clear hb hit
      try clear hb0 hz hz'
      by_cases hp : pos < s.size
      · have hnx : ∀ ty, (Instr.next (.pointer (some ⟨w.heap.size, 0, none⟩)) true ty).run Tryd.prog wr = _ := fun ty => Lib.run_next_any_at wr w.heap.size s pos ty HI.out hp
        have hdrop : l.drop pos = s[pos] :: l.drop (pos + 1) := by rw [← HL.out]; exact drop_cons s pos hp
        have HD := Lib.hid hdrop
        have HP := Lib.hid hp
        by_cases ha : (s[pos]'hp).toNat < 128
        · rw [decode_ascii s pos hp ha] at hnx
          simp only at hnx
          have hit2 := Lib.hid (Lib.iterAt_heap wr w.heap.size s pos (pos + 1) HI.out)
          have hb2 := Lib.hid (Lib.below_iterAt HB.out (k := w.heap.size) (Nat.le_refl _) s (pos + 1))
          have HC : Hid (∀ c : Nat, (s[pos]'hp).toNat = c → numGo (l.drop pos) n = if isDigit c then (if (18446744073709551615 - (c - 48)) / 10 < n then none else numGo (l.drop (pos + 1)) (10 * n + (c - 48))) else none) := by
            intro c hc
            rw [hdrop, numGo, hc]
          generalize hc : (s[pos]'hp).toNat = c at hnx ha
          have HC' := HC.out c hc
          rw [HN.out] at HC'
          have HE := Lib.hid HC'
          clear HC HC' hc hdrop
          cases hd : isDigit c
          · have HR : Hid (R = none) := by show _ = _; rw [HE.out, hd]; rfl
            have HDg := Lib.hid hd
            clear hd
            go_wp2_with (go_at_call 71; refine (digit_is _ HDg.out).mono ?_; rintro e w1 ⟨rfl, rfl⟩)
            go_ret2
            exact .none (by rw [HL.out, HX.out]; exact HR.out) hb2.out
          · have HDg := Lib.hid hd
            have hd' : 48 ≤ c ∧ c ≤ 57 := by simpa [isDigit] using hd
            obtain ⟨d, hcd⟩ : ∃ d : Nat, c - 48 = d := ⟨_, rfl⟩
            have hd9 : d ≤ 9 := by omega
            have hcd' : (c : Int) - 48 = (d : Int) := by omega
            obtain ⟨hc1, hc2⟩ := hd'
            by_cases hof : (18446744073709551615 - d) / 10 < n
            · have HR : Hid (R = none) := by show _ = _; rw [HE.out, hd, hcd, if_pos hof]; rfl
              clear hd hcd
              go_wp2_with (go_at_call 71; refine (digit_is _ HDg.out).mono ?_; rintro e w1 ⟨rfl, rfl⟩)
              go_ret2
              exact .none (by rw [HL.out, HX.out]; exact HR.out) hb2.out
            · have HR : Hid (numGo (l.drop (pos + 1)) (10 * n + d) = R) := by show _ = _; rw [HE.out, hd, hcd, if_neg hof]; rfl
              clear hd hcd
              go_wp2_with (go_at_call 71; refine (digit_is _ HDg.out).mono ?_; rintro e w1 ⟨rfl, rfl⟩)
              go_roundw
              case rel => exact ⟨pos + 1, 10 * n + d, ⟨by have := HP.out; omega, by go_num, by omega⟩, HR, hit2.out, hb2.out⟩
              case measure =>
                have := HP.out
                simp only [World.iterPos, hit2.out, HI.out]
                omega
        · have hh := decode_high s pos hp (by omega)
          have hle := decode_le s pos
          have hb2 := Lib.hid (Lib.below_iterAt HB.out (k := w.heap.size) (Nat.le_refl _) s (pos + (Utf8.decode s pos).2))
          have HR : Hid (R = none) := by
            have e : isDigit (s[pos]'hp).toNat = false := by simp [isDigit]; omega
            show _ = _
            rw [← HN.out, hdrop, numGo, e]; rfl
          generalize (Utf8.decode s pos).1 = c at hnx hh hle
          have hd : isDigit c = false := by simp [isDigit]; omega
          have HDg := Lib.hid hd
          generalize (Utf8.decode s pos).2 = kk at hnx hh hb2
          clear hd hdrop ha
          go_wp2_with (go_at_call 71; refine (digit_is _ HDg.out).mono ?_; rintro e w1 ⟨rfl, rfl⟩)
          go_ret2
          exact .none (by rw [HL.out, HX.out]; exact HR.out) hb2.out
      · have hnx : ∀ ty, (Instr.next (.pointer (some ⟨w.heap.size, 0, none⟩)) true ty).run Tryd.prog wr = _ := fun ty => Lib.run_next_end_at wr w.heap.size s pos ty HI.out hp
        have HR : Hid (R = some n) := by
          show _ = _
          rw [← HN.out, List.drop_eq_nil_of_le (by rw [← HL.out]; simp; omega)]; rfl
        go_wp2
        go_ret2
        exact .some (by rw [HL.out, HX.out]; exact HR.out) HB.out
end Go.Proofs.YthdlihiehfkceaaDoor
