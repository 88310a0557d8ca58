/-
  A map of blocks, each of eight words, by handles: what is said of it, and what keeps it. No program in sight.
-/
import Derived.Test.YtddaeaimimdonaaOwn
import Derived.Maps.OwnSet
import Derived.Maps.OwnOps
import Derived.Maps.Ext
import Derived.Shelf.SlMaps.Clone
import Derived.Shelf.SlMaps.Equal
namespace Go.Proofs.Ytddaeaimimdonaa
open Go.RowKit Go.Maps
set_option linter.unusedVariables false

def blkV (ws : List Int) : Value := .agg (ws.map (Value.int .u64)).toArray
def blkD (ws : List Int) : DataW Unit := .agg (ws.map fun x => .lit (.int .u64 x))
def zero8 : List Int := [0, 0, 0, 0, 0, 0, 0, 0]
def wordsL : List Value → Option (List Int)
  | [] => some []
  | .int .u64 x :: r => (wordsL r).map fun l => x :: l
  | _ :: _ => none
def blkR (v : Value) : Option (DataW Unit × List MemPlace) := match v with
  | .agg cs => (wordsL cs.toList).bind fun ws => if ws.length = 8 then some (blkD ws, []) else none
  | _ => none
theorem wordsL_mk : ∀ ws : List Int, wordsL (ws.map (Value.int .u64)) = some ws
  | [] => rfl
  | x :: r => by rw [List.map_cons, wordsL, wordsL_mk r]; rfl
theorem wordsL_inv : ∀ (l : List Value) (ws : List Int), wordsL l = some ws → l = ws.map (Value.int .u64)
  | [], ws, h => by
    obtain rfl : ws = [] := by simpa [wordsL] using h.symm
    rfl
  | v :: r, ws, h => by
    unfold wordsL at h
    split at h
    · rename_i h0; cases h0
    · rename_i x r' h0
      obtain ⟨rfl, rfl⟩ : v = .int .u64 x ∧ r = r' := by simpa using h0
      obtain ⟨l, hl, rfl⟩ := Option.map_eq_some_iff.1 h
      rw [List.map_cons, wordsL_inv r l hl]
    · cases h
theorem blkR_mk {ws : List Int} (h : ws.length = 8) : blkR (blkV ws) = some (blkD ws, []) := by
  simp [blkR, blkV, wordsL_mk, h]
theorem blkR_inv {v : Value} {z : DataW Unit × List MemPlace} (h : blkR v = some z) : ∃ ws, ws.length = 8 ∧ v = blkV ws ∧ z = (blkD ws, []) := by
  cases v <;> simp only [blkR] at h <;> try (cases h; done)
  rename_i cs
  obtain ⟨ws, hw, h2⟩ := Option.bind_eq_some_iff.1 h
  split at h2
  · rename_i h8
    refine ⟨ws, h8, ?_, by cases h2; rfl⟩
    have := wordsL_inv _ _ hw
    unfold blkV
    rw [← this]
  · cases h2
theorem lits_inj : ∀ {a b : List Int}, a.map (fun x => (DataW.lit (.int .u64 x) : DataW Unit)) = b.map (fun x => (DataW.lit (.int .u64 x) : DataW Unit)) → a = b
  | [], [], _ => rfl
  | [], y :: b, h => by simp at h
  | x :: a, [], h => by simp at h
  | x :: a, y :: b, h => by
    rw [List.map_cons, List.map_cons] at h
    injection h with h1 h2
    injection h1 with h1
    injection h1 with _ h1
    rw [h1, lits_inj h2]
theorem blkD_inj {a b : List Int} (h : blkD a = blkD b) : a = b := by
  unfold blkD at h
  injection h with h
  exact lits_inj h

def U64 (h : Int) : Prop := 0 ≤ h ∧ h ≤ 18446744073709551615
theorem wf_u64_mk {h : Int} (hh : U64 h) : (Lit.int .u64 h).wf = true := by
  unfold U64 at hh
  simpa [Lit.wf, IntKind.min, IntKind.max, IntKind.signed, IntKind.bits] using hh
/-- Block b of w is a map of at most n entries, that holds at each handle h the words f h. -/
def OwnB (w : World) (P : Program) (K : TypeId) (b n : Nat) (f : Int → Option (List Int)) : Prop :=
  ∃ D, w.ownsMap P K blkR b n D ∧ ∀ h, U64 h → (f h = none ∧ Maps.has D (.int .u64 h) = false) ∨ ∃ ws, f h = some ws ∧ ws.length = 8 ∧ Maps.has D (.int .u64 h) = true ∧ ∀ z, D.atKey (.int .u64 h) z = blkD ws

section
variable {w w' : World} {P : Program} {K t e : TypeId} {b n : Nat} {f : Int → Option (List Int)}
theorem OwnB.lt (h : OwnB w P K b n f) : b < w.heap.size := by obtain ⟨D, h, _⟩ := h; exact h.lt
theorem OwnB.mono (h : OwnB w P K b n f) {m : Nat} (hm : n ≤ m) : OwnB w P K b m f := by obtain ⟨D, h, hv⟩ := h; exact ⟨D, h.mono hm, hv⟩
theorem OwnB.kept {row : Option Nat} (h : OwnB w P K b n f) (hg : w.grownBy w' row) (hne : some b ≠ row) : OwnB w' P K b n f := by obtain ⟨D, h, hv⟩ := h; exact ⟨D, h.kept hg hne, hv⟩
theorem OwnB.below (h : OwnB w P K b n f) (hb : Below w.heap.size w w') : OwnB w' P K b n f :=
  h.kept (row := none) ⟨hb.os, hb.tape, hb.output, hb.size, fun k hk _ => hb.block k hk⟩ (by simp)
theorem OwnB.alloc (h : OwnB w P K b n f) (o : Obj) : OwnB (w.alloc o) P K b n f := by obtain ⟨D, h, hv⟩ := h; exact ⟨D, h.alloc o, hv⟩
theorem OwnB.drew (h : OwnB w P K b n f) : OwnB w.drew P K b n f := h
theorem OwnB.setCell (h : OwnB w P K b n f) {a : Addr} (ha : b ≠ a.block) (u : Value) : OwnB (w.setCell a u) P K b n f := by obtain ⟨D, h, hv⟩ := h; exact ⟨D, h.setCell ha u, hv⟩
/-- A map's block is no block of cells. -/
theorem OwnB.ne_bk {g : Nat} {s : TypeId} {cs : Array Value} (h : OwnB w P K b n f) (hg : Bk w g s cs) : b ≠ g := by
  rintro rfl
  obtain ⟨D, ⟨es, clock, hb, _⟩, _⟩ := h
  unfold Bk at hg
  rw [hb] at hg
  cases hg
theorem OwnB.ne_own {base size m : Nat} {s : TypeId} {v : Value} {xs : List Value} (h : OwnB w P K b n f) (ho : w.ownsRow base s size v m xs) : some b ≠ v.ownBlock := by
  intro e
  obtain ⟨D, ⟨es, clock, hb, _⟩, _⟩ := h
  rcases ho.2 with ⟨rfl, _⟩ | ⟨g, cap, cur, rfl, _, hg, _⟩
  · simp [Value.ownBlock] at e
  · obtain rfl : b = g := by simpa [Value.ownBlock] using e
    rw [hb] at hg
    cases hg
theorem OwnB.made (w : World) (P : Program) (K : TypeId) : OwnB (w.alloc (.map #[] 0)) P K w.heap.size 0 fun _ => none :=
  ⟨_, World.ownsMap_made w P K blkR, fun h _ => .inl ⟨rfl, rfl⟩⟩
theorem OwnB.words (h : OwnB w P K b n f) {x : Int} (hx : U64 x) {ws : List Int} (hf : f x = some ws) : ws.length = 8 := by
  obtain ⟨D, _, hv⟩ := h
  rcases hv x hx with ⟨h0, _⟩ | ⟨ws', h0, h8, _⟩
  · rw [h0] at hf; cases hf
  · rw [h0] at hf; cases hf; exact h8

/-- 'v, ok := m[k]'. -/
theorem OwnB.look (h : OwnB w P K b n f) (hK : P.underlying K = some (.int .u64)) (ht : P.underlying t = some (.map K e)) (hz : (zeroValue e).run P w = .ok (blkV zero8) w) {x : Int} (hx : U64 x) :
    (Instr.lookup t (.map (some b)) (.int .u64 x) true).run P w = .ok (.tuple #[blkV ((f x).getD zero8), .bool (f x).isSome]) w := by
  obtain ⟨D, h, hv⟩ := h
  obtain ⟨v, ps, hrun, hr⟩ := h.look_ok (int_keyed hK) ht hz (blkR_mk (ws := zero8) rfl) (keyOf_int_mk hK (wf_u64_mk hx))
  rw [hrun]
  obtain ⟨ws, h8, rfl, hz2⟩ := blkR_inv hr
  have hd := congrArg Prod.fst hz2
  simp only at hd
  rcases hv x hx with ⟨h0, h1⟩ | ⟨ws', h0, _, h1, h2⟩
  · rw [Maps.atKey_of_not_has h1] at hd
    have := blkD_inj hd
    subst this
    rw [h0, h1]; rfl
  · rw [h2] at hd
    have := blkD_inj hd
    subst this
    rw [h0, h1]; rfl

theorem key_ne {x y : Int} (h : y ≠ x) : (Lit.int .u64 y) ≠ (Lit.int .u64 x) := by intro e; injection e with _ e; exact h e

/-- 'm[k] = v'. -/
theorem OwnB.store (h : OwnB w P K b n f) (hK : P.underlying K = some (.int .u64)) (ht : P.underlying t = some (.map K e)) (hn : n < maxLen) {x : Int} (hx : U64 x) {ws : List Int} (h8 : ws.length = 8) :
    ∃ w', (Instr.mapUpdate t (.map (some b)) (.int .u64 x) (blkV ws)).run P w = .ok () w' ∧ OwnB w' P K b (n + 1) (fun y => if y = x then some ws else f y) ∧ w.grownBy w' (some b) := by
  obtain ⟨D, h, hv⟩ := h
  have hk := keyOf_int_mk (P := P) hK (wf_u64_mk hx)
  obtain ⟨w1, hrun, h1, h2⟩ := h.update (int_keyed hK) ht hn hk (blkR_mk h8)
  have hkl : WideAt.IsKeyLit (Lit.int .u64 x) := by first | exact trivial | exact ⟨_, _, rfl⟩ | simp [WideAt.IsKeyLit]
  refine ⟨w1, hrun, ⟨_, h1, fun y hy => ?_⟩, h2⟩
  by_cases hyx : y = x
  · subst hyx
    exact .inr ⟨ws, by simp, h8, Maps.has_put_same h.isMap hkl _, fun z => Maps.atKey_put_same h.isMap hkl _ _⟩
  · simp only [if_neg hyx]
    rw [Maps.has_put_other (key_ne hyx)]
    rcases hv y hy with h0 | ⟨ws', h0, h1, h2, h3⟩
    · exact .inl h0
    · exact .inr ⟨ws', h0, h1, h2, fun z => by rw [Maps.atKey_put_other (key_ne hyx)]; exact h3 z⟩

/-- 'delete(m, k)'. -/
theorem OwnB.drop (h : OwnB w P K b n f) (hK : P.underlying K = some (.int .u64)) (ht : P.underlying t = some (.map K e)) {x : Int} (hx : U64 x) (ty : TypeId) :
    ∃ w', (Builtin.delete_ #[t, K] ty #[.map (some b), .int .u64 x]).run P w = .ok (.tuple #[]) w' ∧ OwnB w' P K b n (fun y => if y = x then none else f y) ∧ w.grownBy w' (some b) := by
  obtain ⟨D, h, hv⟩ := h
  have hk := keyOf_int_mk (P := P) hK (wf_u64_mk hx)
  obtain ⟨w1, hrun, h1, h2⟩ := h.drop (int_keyed hK) ht hk ty
  refine ⟨w1, hrun, ⟨_, h1, fun y hy => ?_⟩, h2.grown⟩
  by_cases hyx : y = x
  · subst hyx
    exact .inl ⟨by simp, Maps.has_del_same⟩
  · simp only [if_neg hyx]
    rw [Maps.has_del_other (key_ne hyx)]
    rcases hv y hy with h0 | ⟨ws', h0, h1, h2, h3⟩
    · exact .inl h0
    · exact .inr ⟨ws', h0, h1, h2, fun z => by rw [Maps.atKey_del_other (key_ne hyx)]; exact h3 z⟩
end

/-! ### at the operation, for the walk -/
section
variable {P : Program} (w : World) {ops : Array Oper} {rest : List Oper} {o : Oper} {a : Act} {Q : Exit → Act → World → Prop}
theorem wpList_store_blk (hg : o.guard = none) (m x v : Operand) (t : TypeId) (hop : o.op = Op.mapUpdate t m x v) (K e : TypeId) (hK : P.underlying K = some (.int .u64)) (ht : P.underlying t = some (.map K e)) (b n : Nat) (f : Int → Option (List Int))
    (hm : a.eval m = .map (some b)) (hown : OwnB w P K b n f) (hn : n < maxLen) (k : Int) (hx : a.eval x = .int .u64 k) (hk : U64 k) (ws : List Int) (hv : a.eval v = blkV ws) (h8 : ws.length = 8)
    (hK' : ∀ w', OwnB w' P K b (n + 1) (fun y => if y = k then some ws else f y) → w.grownBy w' (some b) → wpList P ops Q rest (a.put o.dst undef) w') : wpList P ops Q (o :: rest) a w := by
  refine wpList_plain hg fun K2 hK2 => ?_
  obtain ⟨w', hrun, r1, r2⟩ := hown.store hK ht hn hk h8
  unfold Oper.wp
  simp [execOp, hop, hm, hx, hv, hrun, Result.andThen]
  exact hK2 _ _ (hK' w' r1 r2)
theorem wpList_drop_blk (hg : o.guard = none) (m x : Operand) (t K : TypeId) (hop : o.op = Op.call { callee := Callee.builtin Builtin.delete, args := #[m, x], argTypes := #[t, K] }) (e : TypeId) (hK : P.underlying K = some (.int .u64)) (ht : P.underlying t = some (.map K e)) (b n : Nat) (f : Int → Option (List Int))
    (hm : a.eval m = .map (some b)) (hown : OwnB w P K b n f) (k : Int) (hx : a.eval x = .int .u64 k) (hk : U64 k)
    (hK' : ∀ w', OwnB w' P K b n (fun y => if y = k then none else f y) → w.grownBy w' (some b) → wpList P ops Q rest (a.put o.dst (.tuple #[])) w') : wpList P ops Q (o :: rest) a w := by
  refine wpList_plain hg fun K2 hK2 => ?_
  obtain ⟨w', hrun, r1, r2⟩ := hown.drop hK ht hk o.type
  unfold Oper.wp
  simp [execOp, hop, resolve, invoke, builtin, hm, hx, hrun, Result.andThen]
  exact hK2 _ _ (hK' w' r1 r2)
end
end Go.Proofs.Ytddaeaimimdonaa
