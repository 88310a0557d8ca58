/-
  Two maps of blocks held against each other; arrays of uint64 compared. No program in sight.
-/
import Derived.Test.YtddaeaimimdonaaMapB
import Derived.Laws.StructEq
import Derived.ChangeKeysEq
namespace Go.Proofs.Ytddaeaimimdonaa
open Go.RowKit Go.Maps
set_option linter.unusedVariables false

/-- What a map's data say of the blocks. -/
def Val (D : DataW Unit) (f : Int → Option (List Int)) : Prop :=
  ∀ h, U64 h → (f h = none ∧ Maps.has D (.int .u64 h) = false) ∨ ∃ ws, f h = some ws ∧ ws.length = 8 ∧ Maps.has D (.int .u64 h) = true ∧ ∀ z, D.atKey (.int .u64 h) z = blkD ws
theorem u64_of_wf {x : Int} (h : (Lit.int .u64 x).wf = true) : U64 x := by
  simp [Lit.wf, IntKind.min, IntKind.max, IntKind.signed, IntKind.bits] at h
  exact h
section
variable {w : World} {P : Program} {K : TypeId} {b n : Nat} {D : DataW Unit}
theorem own_key (h : w.ownsMap P K blkR b n D) (hK : P.underlying K = some (.int .u64)) {kl : Lit} (hh : Maps.has D kl = true) : ∃ x, kl = .int .u64 x ∧ U64 x := by
  obtain ⟨es, clock, _, F, _, rfl⟩ := h
  obtain ⟨p, hp, hs⟩ := List.any_eq_true.1 (show (List.foldr DataW.insert [] (es.toList.map (WideElems.rg P K blkR))).any (fun p => p.1.sameKey kl) = true from hh)
  obtain ⟨x, hx, rfl⟩ := List.mem_map.1 (mem_sorted.1 hp)
  obtain ⟨y, hy⟩ := F.reads x hx
  have e1 := WideAt.sameKey_eq hs
  rw [WideElems.rg_of hy] at e1
  obtain ⟨z, _, hz, hw⟩ := Maps.keyOf_int_inv hK (WideElems.rd_key hy)
  exact ⟨z, by rw [← e1, hz], u64_of_wf hw⟩
theorem Val.got {f : Int → Option (List Int)} (v : Val D f) {x : Int} (hx : U64 x) (hh : Maps.has D (.int .u64 x) = true) : ∃ ws, f x = some ws ∧ ws.length = 8 ∧ ∀ z, D.atKey (.int .u64 x) z = blkD ws := by
  rcases v x hx with ⟨_, h0⟩ | ⟨ws, h1, h2, _, h4⟩
  · rw [hh] at h0; cases h0
  · exact ⟨ws, h1, h2, h4⟩
theorem Val.had {f : Int → Option (List Int)} (v : Val D f) {x : Int} (hx : U64 x) {ws : List Int} (hf : f x = some ws) : Maps.has D (.int .u64 x) = true ∧ ∀ z, D.atKey (.int .u64 x) z = blkD ws := by
  rcases v x hx with ⟨h0, _⟩ | ⟨ws', h1, _, h3, h4⟩
  · rw [h0] at hf; cases hf
  · rw [h1] at hf; cases hf; exact ⟨h3, h4⟩
end
section
variable {w w2 : World} {P : Program} {K : TypeId} {b b2 n n2 : Nat} {D1 D2 : DataW Unit} {f g : Int → Option (List Int)}
theorem eq_of_val (h1 : w.ownsMap P K blkR b n D1) (h2 : w2.ownsMap P K blkR b2 n2 D2) (hK : P.underlying K = some (.int .u64)) (v1 : Val D1 f) (v2 : Val D2 g) (he : ∀ x, U64 x → f x = g x) : D1 = D2 := by
  refine Maps.ext (h1.canon (int_keyed hK)) (h2.canon (int_keyed hK)) (fun k => ?_) (fun k z hk => ?_)
  · rw [Bool.eq_iff_iff]
    constructor
    · intro hk
      obtain ⟨x, rfl, hx⟩ := own_key h1 hK hk
      obtain ⟨ws, hf, _⟩ := v1.got hx hk
      exact (v2.had hx (by rw [← he x hx]; exact hf)).1
    · intro hk
      obtain ⟨x, rfl, hx⟩ := own_key h2 hK hk
      obtain ⟨ws, hf, _⟩ := v2.got hx hk
      exact (v1.had hx (by rw [he x hx]; exact hf)).1
  · obtain ⟨x, rfl, hx⟩ := own_key h1 hK hk
    obtain ⟨ws, hf, _, h4⟩ := v1.got hx hk
    rw [h4, (v2.had hx (by rw [← he x hx]; exact hf)).2]
theorem nodup_back {α : Type} [DecidableEq α] : ∀ (l r : List α), l.Nodup → (∀ x ∈ l, x ∈ r) → r.length ≤ l.length → ∀ x ∈ r, x ∈ l
  | [], r, _, _, hl, x, hx => by
    have : r = [] := List.eq_nil_of_length_eq_zero (by simpa using hl)
    rw [this] at hx; simp at hx
  | a :: l, r, hn, hs, hl, x, hx => by
    obtain ⟨ha, hn2⟩ := List.nodup_cons.1 hn
    have har : a ∈ r := hs a (by simp)
    by_cases hxa : x = a
    · simp [hxa]
    · refine List.mem_cons_of_mem _ (nodup_back l (r.erase a) hn2 (fun y hy => ?_) ?_ x ((List.mem_erase_of_ne hxa).2 hx))
      · exact (List.mem_erase_of_ne (fun e => ha (by rw [← e]; exact hy))).2 (hs y (List.mem_cons_of_mem _ hy))
      · rw [List.length_erase_of_mem har]
        simp at hl
        omega
theorem all_of_size (h1 : w.ownsMap P K blkR b n D1) (h2 : w2.ownsMap P K blkR b2 n2 D2) (hK : P.underlying K = some (.int .u64)) (v1 : Val D1 f) (v2 : Val D2 g) (hs : Maps.size D1 = Maps.size D2)
    (hg : ∀ x, U64 x → ∀ ws, f x = some ws → g x = some ws) : ∀ x, U64 x → f x = g x := by
  intro x hx
  cases hf : f x with
  | some ws => exact (hg x hx ws hf).symm
  | none =>
    cases hgx : g x with
    | none => rfl
    | some ws =>
      exfalso
      have hD2 := (v2.had hx hgx).1
      have hD1 : Maps.has D1 (.int .u64 x) = false := by
        rcases v1 x hx with ⟨_, h0⟩ | ⟨ws', h0, _⟩
        · exact h0
        · rw [hf] at h0; cases h0
      have hk1 : ∀ kl, Maps.has D1 kl = true → Maps.has D2 kl = true := by
        intro kl hk
        obtain ⟨y, rfl, hy⟩ := own_key h1 hK hk
        obtain ⟨ws', hf', _⟩ := v1.got hy hk
        exact (v2.had hy (hg y hy ws' hf')).1
      obtain ⟨es1, rfl, p1, k1⟩ := h1.entries (int_keyed hK)
      obtain ⟨es2, rfl, p2, k2⟩ := h2.entries (int_keyed hK)
      have hm1 : ∀ (es : List (Lit × DataW Unit)), (∀ p ∈ es, WideAt.IsKeyLit p.1) → ∀ kl, Maps.has (.map es : DataW Unit) kl = true ↔ kl ∈ es.map (·.1) := by
        intro es hk kl
        constructor
        · intro h
          obtain ⟨p, hp, hs⟩ := List.any_eq_true.1 (show es.any (fun p => p.1.sameKey kl) = true from h)
          exact List.mem_map.2 ⟨p, hp, WideAt.sameKey_eq hs⟩
        · intro h
          obtain ⟨p, hp, rfl⟩ := List.mem_map.1 h
          exact List.any_eq_true.2 ⟨p, hp, WideAt.sameKey_self (hk p hp)⟩
      have hn1 : (es1.map (·.1)).Nodup := List.pairwise_map.2 p1
      have := @nodup_back Lit (Classical.typeDecidableEq _) (es1.map (·.1)) (es2.map (·.1)) hn1 (fun kl hk => (hm1 es2 k2 kl).1 (hk1 kl ((hm1 es1 k1 kl).2 hk))) (by
        have hs : es1.length = es2.length := hs
        simp; omega) (.int .u64 x) ((hm1 es2 k2 _).1 hD2)
      rw [(hm1 es1 k1 _).2 this] at hD1
      cases hD1
end
section
variable {P : Program}
theorem eqItems_u64 (w : World) (d : Nat) (e : TypeId) (he : P.underlying e = some (.int .u64)) (xs ys : List Int) : ∀ is : List Nat, (∀ i ∈ is, i < xs.length ∧ i < ys.length) →
    (Op.eqItems (d + 1) e 1 (xs.map (Value.int .u64)).toArray (ys.map (Value.int .u64)).toArray is).run P w = .ok (is.all fun i => xs.getD i 0 == ys.getD i 0) w
  | [], _ => by simp [Op.eqItems]
  | i :: is, h => by
    obtain ⟨hx, hy⟩ := h i (by simp)
    have px : (part e (xs.map (Value.int .u64)).toArray (i * 1)).run P w = .ok (.int .u64 (xs.getD i 0)) w := by
      simp [part, isAgg, run_underlying he, List.getD, List.getElem?_eq_getElem hx]
    have py : (part e (ys.map (Value.int .u64)).toArray (i * 1)).run P w = .ok (.int .u64 (ys.getD i 0)) w := by
      simp [part, isAgg, run_underlying he, List.getD, List.getElem?_eq_getElem hy]
    have ih := eqItems_u64 w d e he xs ys is (fun j hj => h j (by simp [hj]))
    simp only [Op.eqItems, Sem.run_bind, px, py, Result.andThen_ok, run_equalIn_int w d e .u64 .u64 _ _ he, List.all_cons]
    cases hb : (xs.getD i 0 == ys.getD i 0)
    · simp
    · simp only [Bool.not_true, Bool.false_eq_true, if_false, Bool.true_and]
      exact ih
theorem all_getD : ∀ (xs ys : List Int), xs.length = ys.length → ((List.range xs.length).all fun i => xs.getD i 0 == ys.getD i 0) = decide (xs = ys)
  | [], [], _ => by simp
  | x :: xs, y :: ys, h => by
    have ih := all_getD xs ys (by simpa using h)
    rw [List.length_cons, List.range_succ_eq_map, List.all_cons, List.all_map]
    simp only [List.getD_cons_zero, Function.comp_def, List.getD_cons_succ, ih]
    rw [Bool.eq_iff_iff]; simp
  | [], _ :: _, h => by simp at h
  | _ :: _, [], h => by simp at h
theorem equalIn_u64s (w : World) (d n : Nat) (t e : TypeId) (ht : P.underlying t = some (.array n e)) (he : P.underlying e = some (.int .u64)) {i : TypeInfo} (hi : P.info? e = some i) (hc : P.cellsOf e = 1) (xs ys : List Int) (hx : xs.length = n) (hy : ys.length = n) :
    (Op.equalIn (d + 2) t (.agg (xs.map (Value.int .u64)).toArray) (.agg (ys.map (Value.int .u64)).toArray)).run P w = .ok (decide (xs = ys)) w := by
  rw [run_equalIn_array w (d + 1) _ _ ht hi, hc, eqItems_u64 w d e he xs ys _ (fun i hi => by rw [List.mem_range] at hi; omega), ← all_getD xs ys (by omega), hx]
theorem eql_u64s (w : World) (n : Nat) (t e : TypeId) (ht : P.underlying t = some (.array n e)) (he : P.underlying e = some (.int .u64)) {i : TypeInfo} (hi : P.info? e = some i) (hc : P.cellsOf e = 1) (xs ys : List Int) (hx : xs.length = n) (hy : ys.length = n) :
    (binOp .eql t (.agg (xs.map (Value.int .u64)).toArray) (.agg (ys.map (Value.int .u64)).toArray)).run P w = .ok (.bool (decide (xs = ys))) w := by
  rw [run_eql_struct, equalIn_u64s w 9998 n t e ht he hi hc xs ys hx hy]; rfl
theorem neq_u64s (w : World) (n : Nat) (t e : TypeId) (ht : P.underlying t = some (.array n e)) (he : P.underlying e = some (.int .u64)) {i : TypeInfo} (hi : P.info? e = some i) (hc : P.cellsOf e = 1) (xs ys : List Int) (hx : xs.length = n) (hy : ys.length = n) :
    (binOp .neq t (.agg (xs.map (Value.int .u64)).toArray) (.agg (ys.map (Value.int .u64)).toArray)).run P w = .ok (.bool (!decide (xs = ys))) w := by
  rw [run_neq_struct, equalIn_u64s w 9998 n t e ht he hi hc xs ys hx hy]; rfl
end
end Go.Proofs.Ytddaeaimimdonaa
