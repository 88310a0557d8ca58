import Derived.WalkKit
import Derived.Handy
import Derived.Deep.Draws
import Derived.Lib.Hide
import Derived.Maps.AppendAt
import Derived.OwnWalk
import Derived.Laws.OwnMore
import Derived.Lib.SlBytesConst
import Derived.Laws.BytesArg
import Derived.Test.YtjggmimaolddkaaChecked
import Derived.DeepKeys4
import Derived.Maps.OwnSet
import Derived.MapViews
namespace Go.Proofs.Ytjggmimaolddkaa
open Go.RowKit
set_option linter.unusedVariables false
theorem ret_bool {a b : Bool} (h : a = b) : Ending.returned (.bool a) = .returned (.bool b) := by rw [h]
theorem ret_int {k : IntKind} {a b : Int} (h : a = b) : Ending.returned (.int k a) = .returned (.int k b) := by rw [h]
theorem results_tmp4 {fn : Func} {t u v x : Tmp} (h : fn.results = #[.tmp t, .tmp u, .tmp v, .tmp x]) (tmps : Array Value) (P : Program) (w : World) :
 (results fn tmps).run P w = .ok (.tuple #[tmps.getD t undef, tmps.getD u undef, tmps.getD v undef, tmps.getD x undef]) w := by simp [results, h]
theorem bcell {W w1 : World} (hb : Below W.heap.size W w1) : (∀ b o, b < W.heap.size → w1.cell? ⟨b, o, none⟩ = W.cell? ⟨b, o, none⟩) ∧ (∀ b o, b < W.heap.size → w1.frozen? ⟨b, o, none⟩ = W.frozen? ⟨b, o, none⟩) :=
 ⟨fun b o h => hb.cell (p := ⟨b, o, none⟩) h, fun b o h => hb.frozen (p := ⟨b, o, none⟩) h⟩
structure Rd (w : World) (B size : Nat) (A : Option Addr) (n : Nat) (xs : List Value) : Prop where
 len : xs.length = n * size
 le : n ≤ maxLen
 at_ : 0 < n → ∃ b o, A = some ⟨b, o, none⟩ ∧ b < B ∧ ∀ j u, xs[j]? = some u → w.cell? ⟨b, o + j, none⟩ = some u
section
variable {w w' : World} {B B' size n : Nat} {A : Option Addr} {xs : List Value}
theorem Rd.keep (h : Rd w B size A n xs) (hk : ∀ p : Addr, p.block < B → w'.cell? p = w.cell? p) : Rd w' B size A n xs :=
 ⟨h.len, h.le, fun hn => by
  obtain ⟨b, o, e, hb, hc⟩ := h.at_ hn
  exact ⟨b, o, e, hb, fun j u hu => (hk ⟨b, o + j, none⟩ hb).trans (hc j u hu)⟩⟩
theorem Rd.more (h : Rd w B size A n xs) (hB : B ≤ B') : Rd w B' size A n xs :=
 ⟨h.len, h.le, fun hn => by
  obtain ⟨b, o, e, hb, hc⟩ := h.at_ hn
  exact ⟨b, o, e, Nat.lt_of_lt_of_le hb hB, hc⟩⟩
theorem Rd.below (h : Rd w B size A n xs) (hb : Below B w w') : Rd w' B size A n xs := h.keep fun _ hp => hb.cell hp
theorem Rd.drew (h : Rd w B size A n xs) : Rd w.drew B size A n xs := ⟨h.len, h.le, h.at_⟩
theorem Rd.drewN (h : Rd w B size A n xs) (k : Nat) : Rd (w.drewN k) B size A n xs := ⟨h.len, h.le, h.at_⟩
theorem Rd.alloc (h : Rd w B size A n xs) (hB : B ≤ w.heap.size) (o : Obj) : Rd (w.alloc o) B size A n xs := h.below ((Below.refl _ _).alloc hB o)
theorem Rd.setCell (h : Rd w B size A n xs) {p : Addr} (hB : B ≤ p.block) (u : Value) : Rd (w.setCell p u) B size A n xs := h.below ((Below.refl _ _).setCell hB u)
theorem Rd.grown (h : Rd w B size A n xs) {row : Option Nat} (hg : w.grownBy w' row) (hB : B ≤ w.heap.size) (hr : ∀ g, row = some g → B ≤ g) : Rd w' B size A n xs :=
 h.below ((Below.refl _ _).grown hg hB hr)
theorem Rd.nil (w : World) (B size : Nat) (A : Option Addr) : Rd w B size A 0 [] := ⟨by simp, by simp [maxLen], fun h => by omega⟩
theorem Rd.of_own {base : Nat} {e : TypeId} {v : Value} (h : w.ownsRow base e size v n xs) : ∃ A c, v = .slice A n c ∧ Rd w w.heap.size size A n xs := by
 rcases h.2 with ⟨rfl, rfl⟩ | ⟨g, cap, cur, rfl, hb, hg, hnc, hcm, hcs, hx⟩
 ·exact ⟨none, 0, rfl, h.1, by simp [maxLen], fun h => by omega⟩
 ·refine ⟨_, cap, rfl, h.1, Nat.le_trans hnc hcm, fun hn => ⟨g, 0, rfl, (Array.getElem?_eq_some_iff.1 hg).1, fun j u hu => ?_⟩⟩
  have hj : j < n * size := by rw [← h.1]; exact (List.getElem?_eq_some_iff.1 hu).1
  rw [← hx, List.getElem?_take_of_lt hj] at hu
  simp [World.cell?, hg]
  simpa using hu
end
structure Ins where
 op : Int
 a : Int
 b : Int
 c : Int
 imm : Int
theorem Ins.ext_ {i j : Ins} (h : i.op = j.op ∧ i.a = j.a ∧ i.b = j.b ∧ i.c = j.c ∧ i.imm = j.imm) : i = j := by
 cases i; cases j; simp_all
instance : DecidableEq Ins := fun i j =>
 if h : i.op = j.op ∧ i.a = j.a ∧ i.b = j.b ∧ i.c = j.c ∧ i.imm = j.imm then isTrue (Ins.ext_ h) else isFalse (fun e => h (by subst e; exact ⟨rfl, rfl, rfl, rfl, rfl⟩))
def Ins.cells (i : Ins) : List Value := [.int .i64 i.op, .int .i64 i.a, .int .i64 i.b, .int .i64 i.c, .int .u64 i.imm]
def insCells (l : List Ins) : List Value := l.flatMap Ins.cells
structure Ins.Ok (i : Ins) : Prop where
 op : -9223372036854775808 ≤ i.op ∧ i.op ≤ 9223372036854775807
 a : -9223372036854775808 ≤ i.a ∧ i.a ≤ 9223372036854775807
 b : -9223372036854775808 ≤ i.b ∧ i.b ≤ 9223372036854775807
 c : -9223372036854775808 ≤ i.c ∧ i.c ≤ 9223372036854775807
 imm : 0 ≤ i.imm ∧ i.imm ≤ 18446744073709551615
theorem insCells_length (l : List Ins) : (insCells l).length = l.length * 5 := by
 induction l with
 | nil => rfl
 | cons i l ih =>
   show (i.cells ++ insCells l).length = _
   rw [List.length_append, ih]; simp [Ins.cells]; omega
theorem insCells_at {l : List Ins} {k : Nat} (h : k < l.length) {j : Nat} (hj : j < 5) : (insCells l)[k * 5 + j]? = (l[k]'h).cells[j]? := by
 induction l generalizing k with
 | nil => simp at h
 | cons i l ih =>
   rcases k with _ | k
   ·simp only [insCells, List.flatMap_cons, Nat.zero_mul, Nat.zero_add, List.getElem_cons_zero]
    rw [List.getElem?_append_left (by simp [Ins.cells]; omega)]
   ·simp only [insCells, List.flatMap_cons, List.getElem_cons_succ]
    rw [List.getElem?_append_right (by simp [Ins.cells]; omega)]
    have e : (k + 1) * 5 + j - i.cells.length = k * 5 + j := by simp [Ins.cells]; omega
    rw [e]
    exact ih (by simpa using h)
abbrev RdI (w : World) (B : Nat) (A : Option Addr) (n : Nat) (l : List Ins) : Prop := Rd w B 5 A n (insCells l)
theorem Rd.insLen {w : World} {B n : Nat} {A : Option Addr} {l : List Ins} (h : RdI w B A n l) : l.length = n := by
 have := h.len; rw [insCells_length] at this; omega
theorem Rd.insAt {w : World} {B n : Nat} {A : Option Addr} {l : List Ins} (h : RdI w B A n l) {k : Nat} (hk : k < n) :
 ∃ b o i, A = some ⟨b, o, none⟩ ∧ b < B ∧ l[k]? = some i ∧ w.cell? ⟨b, o + k * 5, none⟩ = some (.int .i64 i.op) ∧ w.cell? ⟨b, o + k * 5 + 1, none⟩ = some (.int .i64 i.a) ∧
  w.cell? ⟨b, o + k * 5 + 2, none⟩ = some (.int .i64 i.b) ∧ w.cell? ⟨b, o + k * 5 + 3, none⟩ = some (.int .i64 i.c) ∧ w.cell? ⟨b, o + k * 5 + 4, none⟩ = some (.int .u64 i.imm) := by
 obtain ⟨b, o, e, hb, hc⟩ := h.at_ (by omega)
 have hl : k < l.length := by rw [h.insLen]; exact hk
 refine ⟨b, o, l[k]'hl, e, hb, List.getElem?_eq_getElem hl, ?_, ?_, ?_, ?_, ?_⟩
 ·exact hc (k * 5) _ (by rw [← Nat.add_zero (k * 5), insCells_at hl (by omega)]; rfl)
 ·exact hc (k * 5 + 1) _ (by rw [insCells_at hl (by omega)]; rfl)
 ·exact hc (k * 5 + 2) _ (by rw [insCells_at hl (by omega)]; rfl)
 ·exact hc (k * 5 + 3) _ (by rw [insCells_at hl (by omega)]; rfl)
 ·exact hc (k * 5 + 4) _ (by rw [insCells_at hl (by omega)]; rfl)
end Go.Proofs.Ytjggmimaolddkaa
namespace Go.Proofs.Ytjggmimaolddkaa
open Go.RowKit
set_option linter.unusedVariables false
structure Rc7 where
 who : Int
 tag : Int
 prog : Int
 a0 : Int
 a1 : Int
 a2 : Int
 a3 : Int
 from_ : Int
 till : Int
 steps : Int
 done : Bool
 code : Int
 val : Int
def Rc7.cells (r : Rc7) : List Value := [.int .i64 r.who, .int .i64 r.tag, .int .i64 r.prog, .int .u64 r.a0, .int .u64 r.a1, .int .u64 r.a2, .int .u64 r.a3, .int .i64 r.from_, .int .i64 r.till, .int .i64 r.steps, .bool r.done, .int .i64 r.code, .int .u64 r.val]
structure Rw7 where
 at_ : Int
 who : Int
 tag : Int
 code : Int
 val : Int
 nv : Value
def Rw7.cells (r : Rw7) : List Value := [.int .i64 r.at_, .int .i64 r.who, .int .i64 r.tag, .int .i64 r.code, .int .u64 r.val, r.nv]
abbrev Rw7.key (r : Rw7) : Int × Int := (r.who, r.tag)
abbrev Rc7.key (r : Rc7) : Int × Int := (r.who, r.tag)
def findK (k : Int × Int) : List Rc7 → Nat → Option (Nat × Rc7)
 | [], _ => none
 | r :: l, n => if r.key = k then some (n, r) else findK k l (n + 1)
def badRow (q : Rc7) (r : Rw7) (seen : List (Int × Int)) (last : Int) : Int :=
 if r.key ∈ seen then 5 else if r.at_ < last ∨ r.at_ < q.from_ ∨ (q.done = true ∧ q.till < r.at_) then 50
 else if q.done = true ∧ ¬ (r.code = q.code ∧ r.val = q.val) then 51 else 0
def fitsGo7 (recs : List Rc7) : List Rw7 → List (Int × Int) → Int → Nat → Int × Int
 | [], seen, _, n => if recs.all (fun q => !q.done || decide (q.key ∈ seen)) then (0, 0) else (n, 4)
 | r :: l, seen, last, n => match findK r.key recs 0 with
   | none => (n, 4)
   | some (_, q) => if badRow q r seen last ≠ 0 then (n, badRow q r seen last) else fitsGo7 recs l (seen ++ [r.key]) r.at_ (n + 1)
def fits7 (recs : List Rc7) (rows : List Rw7) : Int × Int := fitsGo7 recs rows [] 0 0
theorem findK_mem {k : Int × Int} : ∀ {recs : List Rc7} {n i : Nat} {q : Rc7}, findK k recs n = some (i, q) → q ∈ recs ∧ q.key = k ∧ n ≤ i ∧ recs[i - n]? = some q
 | [], n, i, q, h => by cases h
 | r :: l, n, i, q, h => by
   rw [findK] at h
   split at h
   ·rename_i hk
    injection h with h; injection h with h1 h2
    subst h1 h2
    exact ⟨by simp, hk, Nat.le_refl _, by simp⟩
   ·obtain ⟨h1, h2, h3, h4⟩ := findK_mem h
    refine ⟨by simp [h1], h2, by omega, ?_⟩
    rw [show i - n = (i - (n + 1)) + 1 by omega]
    simpa using h4
end Go.Proofs.Ytjggmimaolddkaa
namespace Go.Proofs.Ytjggmimaolddkaa
open Go.RowKit
set_option linter.unusedVariables false
theorem Rd.new (w : World) (cs : Array Value) (t : TypeId) {size m : Nat} (hs : cs.size = m * size) (hm : m ≤ maxLen) :
 Rd (w.alloc (.cells cs t)) (w.heap.size + 1) size (some ⟨w.heap.size, 0, none⟩) m cs.toList := by
 refine ⟨by simpa using hs, hm, fun _ => ⟨w.heap.size, 0, rfl, by omega, fun j u hu => ?_⟩⟩
 rw [World.cell?_alloc_at _ _ _ _ rfl]
 simpa using hu
theorem Rd.newAt (w : World) (cs : Array Value) (t : TypeId) (g : Nat) (hg : g = w.heap.size) {size m : Nat} (hs : cs.size = m * size) (hm : m ≤ maxLen) :
 Rd (w.alloc (.cells cs t)) (g + 1) size (some ⟨g, 0, none⟩) m cs.toList := by
 subst hg; exact Rd.new w cs t hs hm
def Bk (w : World) (g : Nat) (t : TypeId) (cs : Array Value) : Prop := w.heap[g]? = some (.cells cs t (0, 0))
section
variable {w w' : World} {g : Nat} {t : TypeId} {cs : Array Value}
theorem Bk.lt (h : Bk w g t cs) : g < w.heap.size := (Array.getElem?_eq_some_iff.1 h).1
theorem Bk.cell (h : Bk w g t cs) (i : Nat) : w.cell? ⟨g, i, none⟩ = cs[i]? := by
 unfold Bk at h
 simp [World.cell?, h]
theorem Bk.frozen (h : Bk w g t cs) (i : Nat) : w.frozen? ⟨g, i, none⟩ = false := by
 unfold Bk at h
 simp [World.frozen?, h]
theorem Bk.new (w : World) (t : TypeId) (cs : Array Value) : Bk (w.alloc (.cells cs t)) w.heap.size t cs := heap_alloc_new w _
theorem Bk.below {B : Nat} (h : Bk w g t cs) (hb : Below B w w') (hg : g < B) : Bk w' g t cs := (hb.block g hg).trans h
theorem Bk.grown {row : Option Nat} (h : Bk w g t cs) (hb : w.grownBy w' row) (hg : row ≠ some g) : Bk w' g t cs := (hb.block g h.lt (fun e => hg e.symm)).trans h
theorem Bk.alloc (h : Bk w g t cs) (o : Obj) : Bk (w.alloc o) g t cs := (Below.heap_alloc w o g h.lt).trans h
theorem Bk.drew (h : Bk w g t cs) : Bk w.drew g t cs := h
theorem Bk.set_ (h : Bk w g t cs) (i : Nat) (u : Value) : Bk (w.setCell ⟨g, i, none⟩ u) g t (cs.setIfInBounds i u) := by
 unfold Bk at h ⊢
 simp [World.setCell, Array.getElem?_modify, h]
theorem Bk.ne_own {base : Nat} {e : TypeId} {size n : Nat} {v : Value} {xs : List Value} (hg : Bk w g t cs) (h : w.ownsRow base e size v n xs) (hne : e ≠ t) : v.ownBlock ≠ some g := by
 rcases h.2 with ⟨rfl, _⟩ | ⟨g', cap, cur, rfl, _, hh, _⟩
 ·simp [Value.ownBlock]
 ·intro he
  obtain rfl : g' = g := by simpa [Value.ownBlock] using he
  unfold Bk at hg
  rw [hg] at hh
  injection hh with hh
  injection hh with _ ht
  exact hne ht.symm
end
theorem Rd.marked (w : World) (cs : Array Value) (t : TypeId) (fr : Nat × Nat) {size m : Nat} (hs : cs.size = m * size) (hm : m ≤ maxLen) :
 Rd (w.alloc (.cells cs t fr)) (w.heap.size + 1) size (some ⟨w.heap.size, 0, none⟩) m cs.toList := by
 refine ⟨by simpa using hs, hm, fun _ => ⟨w.heap.size, 0, rfl, by omega, fun j u hu => ?_⟩⟩
 rw [Nat.zero_add, World.cell?_alloc_mark]
 simpa using hu
theorem own_below {w w' : World} {base : Nat} {e : TypeId} {size n : Nat} {v : Value} {xs : List Value} (h : w.ownsRow base e size v n xs) (hb : Below w.heap.size w w') : w'.ownsRow base e size v n xs :=
 h.kept (row := none) ⟨hb.os, hb.tape, hb.output, hb.size, fun k hk _ => hb.block k hk⟩ (by
  cases hv : v.ownBlock with
  | none => exact .inl rfl
  | some b => exact .inr (by simp))
theorem own_base {w : World} {base base' : Nat} {e : TypeId} {size n : Nat} {v : Value} {xs : List Value} (h : w.ownsRow base e size v n xs) (hb : base' ≤ base) : w.ownsRow base' e size v n xs := by
 refine ⟨h.1, ?_⟩
 rcases h.2 with hn | ⟨g, cap, cur, hv, hg, rest⟩
 ·exact .inl hn
 ·exact .inr ⟨g, cap, cur, hv, Nat.le_trans hb hg, rest⟩
section
variable {P : Program} (w : World)
theorem run_app_nil (base : Nat) (t ty e : TypeId) (i : TypeInfo) (size : Nat) (ht : P.underlying t = some (.slice e)) (hi : P.info? e = some i)
 (v : Value) (n : Nat) (xs : List Value) (hown : w.ownsRow base e size v n xs) (c : Nat) : (Builtin.append_ #[t, t] ty #[v, .slice none 0 c]).run P w = .ok v w := by
 rcases hown.2 with ⟨rfl, rfl⟩ | ⟨g, cap, cur, rfl, _, _, hnc, _⟩
 ·simp [Builtin.append_, run_underlying ht, sizeOf, typeInfo, hi, Builtin.lenOf, Builtin.firstCells]
 ·simp [Builtin.append_, run_underlying ht, sizeOf, typeInfo, hi, Builtin.lenOf, Builtin.firstCells, hnc, storeCells]
theorem run_app (base : Nat) (t ty e : TypeId) (i : TypeInfo) (z : Value) (size bytes : Nat) (ht : P.underlying t = some (.slice e)) (hi : P.info? e = some i) (hz : i.zero = some z)
 (hsize : i.size = size) (hby : i.bytes = bytes) (hzs : z.cells.size = size) (hsz : 0 < size)
 (v : Value) (n : Nat) (xs : List Value) (hown : w.ownsRow base e size v n xs)
 (B : Nat) (A : Option Addr) (m c : Nat) (news : List Value) (hr : Rd w B size A m news) (h1 : ∀ u ∈ news, u.oneCell' = true)
 (h63 : n + m ≤ maxLen) (hbytes : (n + m) * bytes ≤ 140737488355328) (hbase : base ≤ w.heap.size) :
 ∃ v' w', (Builtin.append_ #[t, t] ty #[v, .slice A m c]).run P w = .ok v' w' ∧ w'.ownsRow base e size v' (n + m) (xs ++ news) ∧ w.grownBy w' v.ownBlock ∧
  (v'.ownBlock = v.ownBlock ∨ v'.ownBlock = some w.heap.size) := by
 rcases A with _ | ad
 ·have hm : m = 0 := by
   rcases Nat.eq_zero_or_pos m with h0 | h0
   ·exact h0
   ·obtain ⟨b, o, h, _⟩ := hr.at_ h0
    cases h
  subst hm
  have hn : news = [] := List.eq_nil_of_length_eq_zero (by simpa using hr.len)
  subst hn
  exact ⟨v, w, run_app_nil w base t ty e i size ht hi v n xs hown c, by simpa using hown, World.grownBy.refl w _, .inl rfl⟩
 ·have hcells : ∀ j u, news[j]? = some u → w.cell? (ad.add j) = some u := by
   intro j u hu
   rcases Nat.eq_zero_or_pos m with h0 | h0
   ·subst h0
    have hn : news = [] := List.eq_nil_of_length_eq_zero (by simpa using hr.len)
    subst hn
    simp at hu
   ·obtain ⟨b, o, h, _, hc⟩ := hr.at_ h0
    injection h with h
    subst h
    have := hc j u hu
    unfold Addr.add
    split
    ·rename_i hj
     subst hj
     exact this
    ·exact this
  obtain ⟨v', w', hrun, h2, h3, _, h5⟩ := run_append_own_at (P := P) w base t ty e i z size bytes ht hi hz hsize hby hzs hsz v n xs hown ad m c news hr.len hcells h1 h63 hbytes hbase
  exact ⟨v', w', hrun, h2, h3, h5⟩
theorem wpList_app {ops : Array Oper} {rest : List Oper} {o : Oper} {a : Act} {Q : Exit → Act → World → Prop} (hgd : o.guard = none) (s x : Operand) (t : TypeId)
 (ho : o.op = .call { callee := .builtin .append, args := #[s, x], argTypes := #[t, t] })
 (base : Nat) (e : TypeId) (i : TypeInfo) (z : Value) (size bytes : Nat) (ht : P.underlying t = some (.slice e)) (hi : P.info? e = some i) (hz : i.zero = some z)
 (hsize : i.size = size) (hby : i.bytes = bytes) (hzs : z.cells.size = size) (hsz : 0 < size)
 (v : Value) (n : Nat) (xs : List Value) (hs : a.eval s = v) (hown : w.ownsRow base e size v n xs)
 (B : Nat) (A : Option Addr) (m c : Nat) (news : List Value) (hx : a.eval x = .slice A m c) (hr : Rd w B size A m news) (h1 : ∀ u ∈ news, u.oneCell' = true)
 (h63 : n + m ≤ maxLen) (hbytes : (n + m) * bytes ≤ 140737488355328) (hbase : base ≤ w.heap.size)
 (h : ∀ v' w', w'.ownsRow base e size v' (n + m) (xs ++ news) → w.grownBy w' v.ownBlock → (v'.ownBlock = v.ownBlock ∨ v'.ownBlock = some w.heap.size) → wpList P ops Q rest (a.put o.dst v') w') : wpList P ops Q (o :: rest) a w := by
 refine wpList_plain hgd fun K hK => ?_
 obtain ⟨v', w', hrun, h2, h3, h4⟩ := run_app (P := P) w base t o.type e i z size bytes ht hi hz hsize hby hzs hsz v n xs hown B A m c news hr h1 h63 hbytes hbase
 unfold Oper.wp execOp
 simp only [ho, resolve, invoke, builtin, Sem.run_bind, Sem.run_pure, Result.andThen_ok, List.map_toArray, List.map_cons, List.map_nil, hs, hx, hrun]
 exact hK _ _ (h v' w' h2 h3 h4)
end
theorem below_own {B : Nat} {a w w' : World} {base : Nat} {e : TypeId} {size n : Nat} {v : Value} {xs : List Value} (h : Below B a w) (hown : w.ownsRow base e size v n xs) (hg : w.grownBy w' v.ownBlock) (hB : B ≤ base) (hw : B ≤ w.heap.size) : Below B a w' :=
 h.grown hg hw fun k hk => Nat.le_trans hB (hown.lt k hk).1
def byt (l : List Int) : List Value := l.map (Value.int .u8)
abbrev RdB (w : World) (B : Nat) (A : Option Addr) (n : Nat) (l : List Int) : Prop := Rd w B 1 A n (byt l)
theorem Rd.of_own_cap {w : World} {base size n : Nat} {xs : List Value} {e : TypeId} {v : Value} (h : w.ownsRow base e size v n xs) : ∃ A c, v = .slice A n c ∧ n ≤ c ∧ Rd w w.heap.size size A n xs := by
 obtain ⟨A, c, rfl, hr⟩ := Rd.of_own h
 refine ⟨A, c, rfl, ?_, hr⟩
 rcases h.2 with ⟨h0, h1⟩ | ⟨g, cap, cur, h0, hb, hg, hnc, _⟩
 ·omega
 ·injection h0 with _ _ h0; omega
section
variable {P : Program} {w : World} {B size n c : Nat} {A : Option Addr} {xs : List Value}
theorem cut_l (T : TypeId) (hT : P.underlying T = some (.slice (P.elem T))) (hs : ∀ W : World, (sizeOf (P.elem T)).run P W = .ok size W) (hr : Rd w B size A n xs) (hnc : n ≤ c) (k : Nat) (z : Int) (hz : z = k) (hk : k ≤ n) :
 ∃ A', (∀ W : World, (Instr.sliceAt T (.slice A n c) (some (.int .i64 z)) none none).run P W = .ok (.slice A' (n - k) (c - k)) W) ∧ Rd w B size A' (n - k) (xs.drop (k * size)) := by
 subst hz
 refine ⟨if c = k then A else A.map (·.add (k * size)), fun W => ?_, ?_, ?_, ?_⟩
 ·rw [run_sliceAt_slice W T _ _ _ _ hT, run_slice_l W T A n c hT .i64 k (by omega) (by omega), hs]
  simp [Result.andThen, sliced]
 ·rw [List.length_drop, hr.len, Nat.sub_mul]
 ·have := hr.le; omega
 ·intro hn
  obtain ⟨b, o, rfl, hb, hc⟩ := hr.at_ (by omega)
  rw [if_neg (by omega)]
  by_cases h0 : k * size = 0
  ·refine ⟨b, o, by simp [Addr.add, h0], hb, fun j u hu => hc j u ?_⟩
   rw [List.getElem?_drop, h0] at hu
   simpa using hu
  ·refine ⟨b, o + k * size, by simp [Addr.add, h0], hb, fun j u hu => ?_⟩
   rw [List.getElem?_drop] at hu
   have := hc _ u hu
   rw [Nat.add_assoc]; exact this
end
def Byts (l : List Int) : Prop := ∀ x ∈ l, 0 ≤ x ∧ x ≤ 255
end Go.Proofs.Ytjggmimaolddkaa
namespace Go.Proofs.Ytjggmimaolddkaa
open Go.RowKit
set_option linter.unusedVariables false
theorem o_flat_at {α : Type} (f : α → List Value) (m : Nat) (hf : ∀ x, (f x).length = m) : ∀ (l : List α) (k : Nat) (x : α) (j : Nat), l[k]? = some x → j < m → (l.flatMap f)[k * m + j]? = (f x)[j]?
 | [], k, x, j, h, _ => by simp at h
 | y :: l, 0, x, j, h, hj => by
   simp at h; subst h
   rw [List.flatMap_cons, List.getElem?_append_left (by rw [hf]; omega)]
   simp
 | y :: l, k + 1, x, j, h, hj => by
   have ih := o_flat_at f m hf l k x j (by simpa using h) hj
   rw [List.flatMap_cons, List.getElem?_append_right (by rw [hf, Nat.add_mul]; omega), hf, ← ih]
   congr 1
   rw [Nat.add_mul]; omega
theorem o_flat_len {α : Type} (f : α → List Value) (m : Nat) (hf : ∀ x, (f x).length = m) (l : List α) : (l.flatMap f).length = l.length * m := by
 induction l with
 | nil => simp
 | cons x l ih => rw [List.flatMap_cons, List.length_append, ih, hf, List.length_cons, Nat.add_mul]; omega
def rcCells (l : List Rc7) : List Value := l.flatMap Rc7.cells
abbrev RdR (w : World) (B : Nat) (A : Option Addr) (n : Nat) (l : List Rc7) : Prop := Rd w B 13 A n (rcCells l)
theorem Rd.rcLen {w : World} {B n : Nat} {A : Option Addr} {l : List Rc7} (h : RdR w B A n l) : l.length = n := by
 have h1 := h.len
 have h2 := o_flat_len Rc7.cells 13 (fun _ => rfl) l
 unfold rcCells at h1
 omega
theorem Rd.rcAt {w : World} {B n : Nat} {A : Option Addr} {l : List Rc7} (h : RdR w B A n l) {k : Nat} (hk : k < n) :
 ∃ b o r, A = some ⟨b, o, none⟩ ∧ b < B ∧ l[k]? = some r ∧ ∀ j u, r.cells[j]? = some u → w.cell? ⟨b, o + (k * 13 + j), none⟩ = some u := by
 obtain ⟨b, o, e, hb, hc⟩ := h.at_ (by omega)
 have hl : k < l.length := by rw [h.rcLen]; exact hk
 refine ⟨b, o, l[k]'hl, e, hb, List.getElem?_eq_getElem hl, fun j u hu => hc _ _ ?_⟩
 have hj : j < 13 := (List.getElem?_eq_some_iff.1 hu).1
 unfold rcCells
 rw [o_flat_at Rc7.cells 13 (fun _ => rfl) l k _ j (List.getElem?_eq_getElem hl) hj]
 exact hu
def Rc7.v (r : Rc7) : Value := .agg #[.int .i64 r.who, .int .i64 r.tag, .int .i64 r.prog, .int .u64 r.a0, .int .u64 r.a1, .int .u64 r.a2, .int .u64 r.a3, .int .i64 r.from_, .int .i64 r.till, .int .i64 r.steps, .bool r.done, .int .i64 r.code, .int .u64 r.val]
set_option maxRecDepth 100000 in
set_option maxHeartbeats 4000000 in
theorem ofind1_any (r : Rc7) (who tag : Int) (g : Nat) (w : World) (c0 : w.cell? ⟨g, 0, none⟩ = some (.int .i64 who)) (c1 : w.cell? ⟨g, 1, none⟩ = some (.int .i64 tag)) :
 Calls Try.prog 33 #[r.v, .pointer (some ⟨g, 0, none⟩)] w fun e w' => e = .returned (.bool (decide (r.key = (who, tag)))) ∧ Below w.heap.size w w' := by
 obtain ⟨rw_, rt, rp, x0, x1, x2, x3, rf, rl, rs, rd, rc, rv⟩ := r
 unfold Rc7.v
 simp only
 have HD : Hid (decide (((rw_, rt) : Int × Int) = (who, tag)) = (decide (rw_ = who) && decide (rt = tag))) := by
  show _ = _
  rw [Bool.eq_iff_iff]
  simp [Prod.ext_iff]
 have hgl : g < w.heap.size := World.block_lt_of_cell? _ _ c0
 have hB : Hid (Below w.heap.size w (w.alloc (.cells #[.int .i64 rw_, .int .i64 rt, .int .i64 rp, .int .u64 x0, .int .u64 x1, .int .u64 x2, .int .u64 x3, .int .i64 rf, .int .i64 rl, .int .i64 rs, .bool rd, .int .i64 rc, .int .u64 rv] 41))) := (Below.refl _ _).alloc (Nat.le_refl _) _
 go_enter Try.func33, Try.ntmps33
 by_cases h0 : rw_ = who
 ·subst h0
  by_cases h1 : rt = tag
  ·subst h1
   go_wp2
   go_ret
   exact ⟨by simp, hB.out⟩
  ·have e1 : (rt == tag) = false := beq_eq_false_iff_ne.2 h1
   have e1d : decide (rt = tag) = false := decide_eq_false h1
   go_wp2
   go_ret
   exact ⟨by simp, hB.out⟩
 ·have e0 : (rw_ == who) = false := beq_eq_false_iff_ne.2 h0
  go_wp2
  go_ret
  exact ⟨ret_bool (by rw [show decide ((Rc7.mk rw_ rt rp x0 x1 x2 x3 rf rl rs rd rc rv).key = (who, tag)) = _ from HD.out]; simp [h0]), hB.out⟩
def findI (k : Int × Int) (l : List Rc7) (n : Nat) : Int := match findK k l n with
 | none => -1
 | some (i, _) => (i : Int)
theorem findI_nil (k : Int × Int) (n : Nat) : findI k [] n = -1 := rfl
theorem findI_cons (k : Int × Int) (r : Rc7) (l : List Rc7) (n : Nat) : findI k (r :: l) n = if r.key = k then (n : Int) else findI k l (n + 1) := by
 unfold findI
 rw [findK]
 by_cases h : r.key = k
 ·rw [if_pos h, if_pos h]
 ·rw [if_neg h, if_neg h]
set_option maxRecDepth 100000 in
set_option maxHeartbeats 4000000 in
theorem oindex_any (l : List Rc7) (A : Option Addr) (n c : Nat) (who tag : Int) (g : Nat) (w : World) (hr : RdR w w.heap.size A n l) (c0 : w.cell? ⟨g, 0, none⟩ = some (.int .i64 who)) (c1 : w.cell? ⟨g, 1, none⟩ = some (.int .i64 tag)) :
 Calls Try.prog 32 #[.slice A n c, .func (.func 33) #[] #[.pointer (some ⟨g, 0, none⟩)]] w fun e w' => e = .returned (.int .i64 (findI (who, tag) l 0)) ∧ Below w.heap.size w w' := by
 have hn := hr.le
 have hlen := hr.rcLen
 have HR := Lib.hid hr
 have HLen := Lib.hid hlen
 have C0 := Lib.hid c0
 have C1 := Lib.hid c1
 have hgl : g < w.heap.size := World.block_lt_of_cell? _ _ c0
 unfold maxLen at hn
 clear hr hlen c0 c1
 go_enter Try.func32, Try.ntmps32
 go_wp2
 go_loopw [8] (fun i wr => ∃ k : Nat, (k ≤ n ∧ i = .int .i64 k) ∧ Hid (findI (who, tag) (l.drop k) k = findI (who, tag) l 0) ∧ Hid (Below w.heap.size w wr)) (fun i _ => n - (intOf i).toNat)
 case atStart => exact ⟨0, ⟨by omega, rfl⟩, rfl, Below.refl _ _⟩
 case round =>
  obtain ⟨k, ⟨hk, rfl⟩, HG, HB⟩ := hrel
  by_cases hlt : k < n
  ·have hlti : (k : Int) < (n : Int) := by omega
   obtain ⟨b, o, r, rfl, hb, hrk, hc⟩ := (HR.out.below HB.out).rcAt hlt
   have hkl : k < l.length := by rw [HLen.out]; exact hlt
   have hdr : l.drop k = r :: l.drop (k + 1) := by
    rw [List.drop_eq_getElem_cons hkl]; rw [List.getElem?_eq_getElem hkl] at hrk; injection hrk with hrk; rw [hrk]
   have hg := HG.out
   rw [hdr, findI_cons] at hg
   have hcl := fun W h0 h1 => ofind1_any r who tag g W h0 h1
   obtain ⟨rw_, rt, rp, x0, x1, x2, x3, rf, rl, rs, rd, rc, rv⟩ := r
   unfold Rc7.v at hcl
   simp only at hcl
   have d0 := hc 0 _ rfl
   have d1 := hc 1 _ rfl
   have d2 := hc 2 _ rfl
   have d3 := hc 3 _ rfl
   have d4 := hc 4 _ rfl
   have d5 := hc 5 _ rfl
   have d6 := hc 6 _ rfl
   have d7 := hc 7 _ rfl
   have d8 := hc 8 _ rfl
   have d9 := hc 9 _ rfl
   have d10 := hc 10 _ rfl
   have d11 := hc 11 _ rfl
   have d12 := hc 12 _ rfl
   simp only [← Nat.add_assoc, Nat.add_zero] at d0 d1 d2 d3 d4 d5 d6 d7 d8 d9 d10 d11 d12
   have HCl := Lib.hid hcl
   clear hcl hc hdr hrk hkl
   obtain ⟨bb, hbb⟩ : ∃ bb, decide ((Rc7.mk rw_ rt rp x0 x1 x2 x3 rf rl rs rd rc rv).key = (who, tag)) = bb := ⟨_, rfl⟩
   rw [hbb] at HCl
   cases bb
   ·rw [if_neg (of_decide_eq_false hbb)] at hg
    have HG2 := Lib.hid hg
    clear hg hbb
    go_wp2_with (
     go_at_call 33
     refine (HCl.out wr ((HB.out.cell (p := ⟨g, 0, none⟩) hgl).trans C0.out) ((HB.out.cell (p := ⟨g, 1, none⟩) hgl).trans C1.out)).mono ?_
     rintro e w2 ⟨rfl, hb2⟩
     have HB2 := Lib.hid (HB.out.trans (hb2.mono HB.out.size))
     clear hb2)
    go_roundw
    case rel => exact ⟨k + 1, ⟨by omega, by go_num⟩, HG2.out, HB2.out⟩
    case measure => simp [intOf]; omega
   ·rw [if_pos (of_decide_eq_true hbb)] at hg
    have HG2 := Lib.hid hg
    clear hg hbb
    go_wp2_with (
     go_at_call 33
     refine (HCl.out wr ((HB.out.cell (p := ⟨g, 0, none⟩) hgl).trans C0.out) ((HB.out.cell (p := ⟨g, 1, none⟩) hgl).trans C1.out)).mono ?_
     rintro e w2 ⟨rfl, hb2⟩
     have HB2 := Lib.hid (HB.out.trans (hb2.mono HB.out.size))
     clear hb2)
    go_ret
    exact ⟨ret_int HG2.out, HB2.out⟩
  ·obtain rfl : k = n := by omega
   have hg := HG.out
   rw [List.drop_of_length_le (by rw [HLen.out]; exact Nat.le_refl _), findI_nil] at hg
   have HG2 := Lib.hid hg
   clear hg
   go_wp2
   go_ret
   exact ⟨ret_int HG2.out, HB.out⟩
set_option maxRecDepth 100000 in
set_option maxHeartbeats 4000000 in
theorem ofind_any (l : List Rc7) (A : Option Addr) (n c : Nat) (who tag : Int) (w : World) (hr : RdR w w.heap.size A n l) :
 Calls Try.prog 18 #[.slice A n c, .agg #[.int .i64 who, .int .i64 tag]] w fun e w' => e = .returned (.int .i64 (findI (who, tag) l 0)) ∧ Below w.heap.size w w' := by
 have HR := Lib.hid hr
 clear hr
 have hmf : ∀ (fn : Fn) (first cap : Array Value) (w : World), (Instr.makeFunc fn first cap).run Try.prog w = .ok (.func fn first cap) w := fun _ _ _ _ => rfl
 have HB : Hid (Below w.heap.size w (w.alloc (.cells #[.int .i64 who, .int .i64 tag] 69))) := (Below.refl _ _).alloc (Nat.le_refl _) _
 have HK : Hid (Bk (w.alloc (.cells #[.int .i64 who, .int .i64 tag] 69)) w.heap.size 69 #[.int .i64 who, .int .i64 tag]) := Bk.new w _ _
 go_enter Try.func18, Try.ntmps18
 go_wp2_with (
  go_at_call 32
  refine (oindex_any l A n c who tag w.heap.size _ ((HR.out.below HB.out).more HB.out.size) (HK.out.cell 0) (HK.out.cell 1)).mono ?_
  rintro e w2 ⟨rfl, hb2⟩
  have HB2 := Lib.hid (HB.out.trans (hb2.mono HB.out.size))
  clear hb2)
 go_ret
 exact ⟨rfl, HB2.out⟩
end Go.Proofs.Ytjggmimaolddkaa
namespace Go.Proofs.Ytjggmimaolddkaa
open Go.RowKit Go.Maps Go.WideMaps
set_option linter.unusedVariables false
theorem o_laid : laidOutB Try.prog = true := by kernel_rfl
theorem o_row : (69 : TypeId) < Try.prog.types.size := of_decide_eq_true (by kernel_rfl)
theorem o_wide : (match Try.prog.underlying 69 with | some (.array _ _) | some (.struct _) => true | _ => false) = true := by kernel_rfl
set_option maxRecDepth 100000 in
theorem o_law : KeyLaw Try.prog 69 := deep_law_laid o_laid (m := 2) (by omega) o_row (by kernel_rfl) o_wide
theorem o_keyed : Keyed Try.prog 69 := Keyed.of_law o_law
theorem o_wf {x : Int} (h : -9223372036854775808 ≤ x ∧ x ≤ 9223372036854775807) : (Lit.int .i64 x).wf = true := by
 have e1 : IntKind.i64.min = -9223372036854775808 := by decide
 have e2 : IntKind.i64.max = 9223372036854775807 := by decide
 simp [Lit.wf, e1, e2]; omega
theorem o_pos (n m : Nat) (h : m < n) : ∃ N, n = N + 1 := ⟨n - 1, by omega⟩
def ok7 (k : Int × Int) : Lit := .string (keyBytes [.int .i64 k.1, .int .i64 k.2])
def okV (k : Int × Int) : Value := .agg #[.int .i64 k.1, .int .i64 k.2]
theorem okV_inj {k l : Int × Int} (h : okV k = okV l) : k = l := by
 obtain ⟨a, b⟩ := k
 obtain ⟨c, d⟩ := l
 simpa [okV] using h
set_option maxRecDepth 100000 in
theorem ok7_of {k : Int × Int} (h1 : -9223372036854775808 ≤ k.1 ∧ k.1 ≤ 9223372036854775807) (h2 : -9223372036854775808 ≤ k.2 ∧ k.2 ≤ 9223372036854775807) : keyOf Try.prog 69 (okV k) = some (ok7 k) := by
 have w1 := o_wf h1
 have w2 := o_wf h2
 have hc : Try.prog.cellsOf 69 = 2 := by kernel_rfl
 have hci : Try.prog.cellsOf 3 = 1 := by kernel_rfl
 have hf : (okV k).formed Try.prog 69 = true := by simp [okV, Value.formed, Try.underlying69, hc]
 unfold keyOf
 rw [Try.underlying69]
 simp only
 have hkt : Try.prog.keyType 69 = true := by kernel_rfl
 rw [hkt, hf]
 simp only [Bool.and_self, if_true]
 obtain ⟨N, hN⟩ := o_pos _ _ o_row
 rw [hN]
 simp [okV, ok7, Value.cells, Program.keyLits, Try.underlying69, Try.underlying3, hc, hci, w1, w2]
set_option maxRecDepth 100000 in
theorem ok7_inj {k l : Int × Int} (h1 : -9223372036854775808 ≤ k.1 ∧ k.1 ≤ 9223372036854775807) (h2 : -9223372036854775808 ≤ k.2 ∧ k.2 ≤ 9223372036854775807) (h3 : -9223372036854775808 ≤ l.1 ∧ l.1 ≤ 9223372036854775807) (h4 : -9223372036854775808 ≤ l.2 ∧ l.2 ≤ 9223372036854775807) (h : ok7 k = ok7 l) : k = l := by
 have a := ok7_of h1 h2
 have b := ok7_of h3 h4
 rw [h] at a
 exact okV_inj (o_keyed.inj a b)
structure KOk (k : Int × Int) : Prop where
 a : -9223372036854775808 ≤ k.1 ∧ k.1 ≤ 9223372036854775807
 b : -9223372036854775808 ≤ k.2 ∧ k.2 ≤ 9223372036854775807
def SeenD (D : DataW Unit) (seen : List (Int × Int)) : Prop := ∀ k, KOk k → D.atKey (ok7 k) (.lit (.int .i64 0)) = .lit (.int .i64 (if k ∈ seen then 1 else 0))
theorem SeenD.nil : SeenD (.map []) [] := fun k _ => rfl
theorem SeenD.add {D : DataW Unit} {seen : List (Int × Int)} (h : SeenD D seen) (hD : Maps.IsMap D) {k : Int × Int} (hk : KOk k) (hn : k ∉ seen) : SeenD (D.put (ok7 k) (.lit (.int .i64 1))) (seen ++ [k]) := by
 have hkl : WideAt.IsKeyLit (ok7 k) := by first | exact trivial | exact ⟨_, rfl⟩ | simp [WideAt.IsKeyLit, ok7]
 intro l hl
 by_cases e : l = k
 ·subst e
  rw [Maps.atKey_put_same hD hkl, if_pos (by simp)]
 ·rw [Maps.atKey_put_other (fun he => e (ok7_inj hl.a hl.b hk.a hk.b he)), h l hl]
  have : l ∈ seen ++ [k] ↔ l ∈ seen := by simp [e]
  simp only [this]
theorem look_seen {w : World} {ma n : Nat} {D : DataW Unit} {seen : List (Int × Int)} (h : w.ownsMap Try.prog 69 (plainElem (H := Unit) Try.prog 3) ma n D) (hs : SeenD D seen) {k : Int × Int} (hk : KOk k) :
 (Instr.lookup 67 (.map (some ma)) (okV k) false).run Try.prog w = .ok (.int .i64 (if k ∈ seen then 1 else 0)) w := by
 obtain ⟨c, hrun, hat, _⟩ := h.lookup_int o_keyed Try.underlying67 Try.underlying3 (by kernel_rfl) (ok7_of hk.a hk.b)
 rw [hs k hk] at hat
 simp only [DataW.lit.injEq, Lit.int.injEq, true_and] at hat
 rw [hrun, hat]
end Go.Proofs.Ytjggmimaolddkaa
