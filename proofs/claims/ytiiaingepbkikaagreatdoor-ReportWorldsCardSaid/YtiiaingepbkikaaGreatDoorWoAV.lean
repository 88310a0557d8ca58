import Derived.Test.YtiiaingepbkikaaGreatDoorWoAR
import Derived.Test.YtiiaingepbkikaaGreatDoorWoAU
import Derived.Laws.CopyOwn
import Derived.Test.YtiiaingepbkikaaGreatDoorWoAH
namespace Go.Proofs.YtiiaingepbkikaaGreatDoor
open Go.RowKit
set_option linter.unusedVariables false
set_option linter.unusedSimpArgs false
theorem own_at {w : World} {K L : Nat} {e : TypeId} {size n m c : Nat} {A : Option Addr} {xs : List Value} (hL : L ≤ K) (h : w.ownsRow K e size (.slice A m c) n xs) : ∀ b o z, A = some ⟨b, o, z⟩ → L ≤ b := by
 intro b o z hA
 rcases h.2 with ⟨hv, _⟩ | ⟨g, cap, cur, hv, hg, _⟩
 ·injection hv with h1
  rw [h1] at hA; cases hA
 ·injection hv with h1
  rw [h1] at hA
  injection hA with hA
  injection hA with hA
  omega
theorem own_row {w : World} {base : Nat} {e : TypeId} {size n : Nat} {v : Value} {xs : List Value} (h : w.ownsRow base e size v n xs) {g : Nat} (hg : g < base) (cs : Array Value) : (w.setRow g cs).ownsRow base e size v n xs :=
 h.kept (row := some g) ⟨rfl, rfl, rfl, by simp [World.setRow], fun i hi hne => setRow_other w g i cs (fun e => hne (by rw [e]))⟩ (by
  cases hv : v.ownBlock with
  | none => exact .inl rfl
  | some b => exact .inr (by have := (h.lt b hv).1; intro e; injection e with e; omega))
structure SlW (L : Nat) (A : Option Addr) (n c : Nat) : Prop where
 v : SlV A n c
 at_ : ∀ b o z, A = some ⟨b, o, z⟩ → L ≤ b
def RQ (L B : Nat) (w : World) (vs : Array Value) : QO → Prop
 | none => vs = #[.bool false, .int .u64 0, .slice none 0 0]
 | some (cap, l) => ∃ A n c, vs = #[.bool true, .int .u64 cap, .slice A n c] ∧ SlW L A n c ∧ RdU w B A n l
def RQo (L B K : Nat) (w : World) (vs : Array Value) : QO → Prop
 | none => vs = #[.bool false, .int .u64 0, .slice none 0 0]
 | some (cap, l) => ∃ A n c, vs = #[.bool true, .int .u64 cap, .slice A n c] ∧ SlW L A n c ∧ (RdU w B A n l ∨ w.ownsRow K 32 1 (.slice A n c) n (l.map (Value.int .u64)))
theorem RQo.of {L B : Nat} {w : World} {vs : Array Value} {o : QO} (K : Nat) (h : RQ L B w vs o) : RQo L B K w vs o := by
 rcases o with _ | ⟨cap, l⟩
 ·exact h
 ·obtain ⟨A, n, c, e, hs, hr⟩ := h
  exact ⟨A, n, c, e, hs, .inl hr⟩
theorem RQ.below {L B : Nat} {w w' : World} {vs : Array Value} {o : QO} (h : RQ L B w vs o) (hb : Below w.heap.size w w') (hB : B ≤ w.heap.size) : RQ L B w' vs o := by
 rcases o with _ | ⟨cap, l⟩
 ·exact h
 ·obtain ⟨A, n, c, e, hs, hr⟩ := h
  exact ⟨A, n, c, e, hs, hr.below (hb.mono hB)⟩
theorem RQ.more {L B B' : Nat} {w : World} {vs : Array Value} {o : QO} (h : RQ L B w vs o) (hB : B ≤ B') : RQ L B' w vs o := by
 rcases o with _ | ⟨cap, l⟩
 ·exact h
 ·obtain ⟨A, n, c, e, hs, hr⟩ := h
  exact ⟨A, n, c, e, hs, hr.more hB⟩
theorem RQo.set {L B K : Nat} {w : World} {vs : Array Value} {o : QO} (h : RQo L B K w vs o) {p : Addr} (h1 : B ≤ p.block) (h2 : p.block < K) (u : Value) : RQo L B K (w.setCell p u) vs o := by
 rcases o with _ | ⟨cap, l⟩
 ·exact h
 ·obtain ⟨A, n, c, e, hs, hr | ho⟩ := h
  ·exact ⟨A, n, c, e, hs, .inl (hr.setCell h1 u)⟩
  ·exact ⟨A, n, c, e, hs, .inr (own_set ho h2 u)⟩
theorem RQo.row {L B K : Nat} {w : World} {vs : Array Value} {o : QO} (h : RQo L B K w vs o) {g : Nat} (h1 : B ≤ g) (h2 : g < K) (cs : Array Value) : RQo L B K (w.setRow g cs) vs o := by
 rcases o with _ | ⟨cap, l⟩
 ·exact h
 ·obtain ⟨A, n, c, e, hs, hr | ho⟩ := h
  ·exact ⟨A, n, c, e, hs, .inl (hr.below (below_setRow (Below.refl _ _) h1 cs))⟩
  ·exact ⟨A, n, c, e, hs, .inr (own_row ho h2 cs)⟩
theorem RQo.drew {L B K : Nat} {w : World} {vs : Array Value} {o : QO} (h : RQo L B K w vs o) : RQo L B K w.drew vs o := by
 rcases o with _ | ⟨cap, l⟩
 ·exact h
 ·obtain ⟨A, n, c, e, hs, hr | ho⟩ := h
  ·exact ⟨A, n, c, e, hs, .inl (hr.below (Below.refl _ _).drew)⟩
  ·exact ⟨A, n, c, e, hs, .inr (own_below ho (Below.refl _ _).drew)⟩
theorem RQo.all {L B K : Nat} {w : World} {vs : Array Value} {o : QO} (h : RQo L B K w vs o) (hB : B ≤ w.heap.size) : RQ L w.heap.size w vs o := by
 rcases o with _ | ⟨cap, l⟩
 ·exact h
 ·obtain ⟨A, n, c, e, hs, hr | ho⟩ := h
  ·exact ⟨A, n, c, e, hs, hr.more hB⟩
  ·obtain ⟨A', c', e', hs', hr'⟩ := own_slv ho
   injection e' with e1 e2 e3
   subst e1 e3
   exact ⟨_, _, _, e, hs, hr'⟩
theorem RQ.cells {L B : Nat} {w : World} {vs : Array Value} {o : QO} (h : RQ L B w vs o) (hok : ∀ cap l, o = some (cap, l) → l.length ≤ 100) : ∃ (is : Bool) (cap : Int) (A : Option Addr) (n c : Nat), vs = #[.bool is, .int .u64 cap, .slice A n c] ∧ is = o.isSome ∧ n ≤ 100 := by
 rcases o with _ | ⟨cap, l⟩
 ·exact ⟨_, _, _, _, _, h, rfl, by omega⟩
 ·obtain ⟨A, n, c, e, hs, hr⟩ := h
  exact ⟨_, _, _, _, _, e, rfl, by have := hr.u64Len; have := hok _ _ rfl; omega⟩
theorem RQo.cells {L B K : Nat} {w : World} {vs : Array Value} {o : QO} (h : RQo L B K w vs o) : ∃ (is : Bool) (cap : Int) (A : Option Addr) (n c : Nat), vs = #[.bool is, .int .u64 cap, .slice A n c] := by
 rcases o with _ | ⟨cap, l⟩
 ·exact ⟨_, _, _, _, _, h⟩
 ·obtain ⟨A, n, c, e, _⟩ := h
  exact ⟨_, _, _, _, _, e⟩
theorem rq_own {L B K : Nat} {w : World} {n c : Nat} {A : Option Addr} {cap : Int} {l : List Int} (hL : L ≤ K) (h : w.ownsRow K 32 1 (.slice A n c) n (l.map (Value.int .u64))) : RQo L B K w #[.bool true, .int .u64 cap, .slice A n c] (some (cap, l)) := by
 obtain ⟨A', c', e, hs, _⟩ := own_slv h
 injection e with e1 e2 e3
 subst e1 e3
 exact ⟨_, _, _, rfl, ⟨hs, own_at hL h⟩, .inr h⟩
def DoesRQ (L B : Nat) (w : World) (o : QO) (e : Ending) (w' : World) : Prop := ∃ vs r, e = .returned (.tuple #[.agg vs, r]) ∧ RQo L B w.heap.size w' vs o ∧ ResV r ∧ Below w.heap.size w w'
def RT (L B : Nat) (w : World) (vs : Array Value) : PO → Prop
 | none => vs = #[.bool false, .int .u64 0, .slice none 0 0]
 | some (cap, l) => ∃ A n c, vs = #[.bool true, .int .u64 cap, .slice A n c] ∧ SlW L A n c ∧ RdP w B A n l
def RTo (L B K : Nat) (w : World) (vs : Array Value) : PO → Prop
 | none => vs = #[.bool false, .int .u64 0, .slice none 0 0]
 | some (cap, l) => ∃ A n c, vs = #[.bool true, .int .u64 cap, .slice A n c] ∧ SlW L A n c ∧ (RdP w B A n l ∨ w.ownsRow K 129 2 (.slice A n c) n (pCells l))
theorem RTo.of {L B : Nat} {w : World} {vs : Array Value} {o : PO} (K : Nat) (h : RT L B w vs o) : RTo L B K w vs o := by
 rcases o with _ | ⟨cap, l⟩
 ·exact h
 ·obtain ⟨A, n, c, e, hs, hr⟩ := h
  exact ⟨A, n, c, e, hs, .inl hr⟩
theorem RT.below {L B : Nat} {w w' : World} {vs : Array Value} {o : PO} (h : RT L B w vs o) (hb : Below w.heap.size w w') (hB : B ≤ w.heap.size) : RT L B w' vs o := by
 rcases o with _ | ⟨cap, l⟩
 ·exact h
 ·obtain ⟨A, n, c, e, hs, hr⟩ := h
  exact ⟨A, n, c, e, hs, hr.below (hb.mono hB)⟩
theorem RT.more {L B B' : Nat} {w : World} {vs : Array Value} {o : PO} (h : RT L B w vs o) (hB : B ≤ B') : RT L B' w vs o := by
 rcases o with _ | ⟨cap, l⟩
 ·exact h
 ·obtain ⟨A, n, c, e, hs, hr⟩ := h
  exact ⟨A, n, c, e, hs, hr.more hB⟩
theorem RTo.set {L B K : Nat} {w : World} {vs : Array Value} {o : PO} (h : RTo L B K w vs o) {p : Addr} (h1 : B ≤ p.block) (h2 : p.block < K) (u : Value) : RTo L B K (w.setCell p u) vs o := by
 rcases o with _ | ⟨cap, l⟩
 ·exact h
 ·obtain ⟨A, n, c, e, hs, hr | ho⟩ := h
  ·exact ⟨A, n, c, e, hs, .inl (hr.setCell h1 u)⟩
  ·exact ⟨A, n, c, e, hs, .inr (own_set ho h2 u)⟩
theorem RTo.row {L B K : Nat} {w : World} {vs : Array Value} {o : PO} (h : RTo L B K w vs o) {g : Nat} (h1 : B ≤ g) (h2 : g < K) (cs : Array Value) : RTo L B K (w.setRow g cs) vs o := by
 rcases o with _ | ⟨cap, l⟩
 ·exact h
 ·obtain ⟨A, n, c, e, hs, hr | ho⟩ := h
  ·exact ⟨A, n, c, e, hs, .inl (hr.below (below_setRow (Below.refl _ _) h1 cs))⟩
  ·exact ⟨A, n, c, e, hs, .inr (own_row ho h2 cs)⟩
theorem RTo.drew {L B K : Nat} {w : World} {vs : Array Value} {o : PO} (h : RTo L B K w vs o) : RTo L B K w.drew vs o := by
 rcases o with _ | ⟨cap, l⟩
 ·exact h
 ·obtain ⟨A, n, c, e, hs, hr | ho⟩ := h
  ·exact ⟨A, n, c, e, hs, .inl (hr.below (Below.refl _ _).drew)⟩
  ·exact ⟨A, n, c, e, hs, .inr (own_below ho (Below.refl _ _).drew)⟩
theorem RTo.all {L B K : Nat} {w : World} {vs : Array Value} {o : PO} (h : RTo L B K w vs o) (hB : B ≤ w.heap.size) : RT L w.heap.size w vs o := by
 rcases o with _ | ⟨cap, l⟩
 ·exact h
 ·obtain ⟨A, n, c, e, hs, hr | ho⟩ := h
  ·exact ⟨A, n, c, e, hs, hr.more hB⟩
  ·obtain ⟨A', c', e', hs', hr'⟩ := own_slv ho
   injection e' with e1 e2 e3
   subst e1 e3
   exact ⟨_, _, _, e, hs, hr'⟩
theorem RT.cells {L B : Nat} {w : World} {vs : Array Value} {o : PO} (h : RT L B w vs o) (hok : ∀ cap l, o = some (cap, l) → l.length ≤ 100) : ∃ (is : Bool) (cap : Int) (A : Option Addr) (n c : Nat), vs = #[.bool is, .int .u64 cap, .slice A n c] ∧ is = o.isSome ∧ n ≤ 100 := by
 rcases o with _ | ⟨cap, l⟩
 ·exact ⟨_, _, _, _, _, h, rfl, by omega⟩
 ·obtain ⟨A, n, c, e, hs, hr⟩ := h
  exact ⟨_, _, _, _, _, e, rfl, by have := hr.pairLen; have := hok _ _ rfl; omega⟩
theorem RTo.cells {L B K : Nat} {w : World} {vs : Array Value} {o : PO} (h : RTo L B K w vs o) : ∃ (is : Bool) (cap : Int) (A : Option Addr) (n c : Nat), vs = #[.bool is, .int .u64 cap, .slice A n c] := by
 rcases o with _ | ⟨cap, l⟩
 ·exact ⟨_, _, _, _, _, h⟩
 ·obtain ⟨A, n, c, e, _⟩ := h
  exact ⟨_, _, _, _, _, e⟩
theorem rt_own {L B K : Nat} {w : World} {n c : Nat} {A : Option Addr} {cap : Int} {l : List (Int × Int)} (hL : L ≤ K) (h : w.ownsRow K 129 2 (.slice A n c) n (pCells l)) : RTo L B K w #[.bool true, .int .u64 cap, .slice A n c] (some (cap, l)) := by
 obtain ⟨A', c', e, hs, _⟩ := own_slv h
 injection e with e1 e2 e3
 subst e1 e3
 exact ⟨_, _, _, rfl, ⟨hs, own_at hL h⟩, .inr h⟩
def DoesRT (L B : Nat) (w : World) (o : PO) (e : Ending) (w' : World) : Prop := ∃ vs r, e = .returned (.tuple #[.agg vs, r]) ∧ RTo L B w.heap.size w' vs o ∧ ResV r ∧ Below w.heap.size w w'
theorem cut_1L {P : Program} {w : World} {B size n c : Nat} {A : Option Addr} {xs : List Value} (T : TypeId) (hT : P.underlying T = some (.slice (P.elem T))) (hs : ∀ W : World, (sizeOf (P.elem T)).run P W = .ok size W) (hr : Rd w B size A n xs) (hnc : n ≤ c) (hn : 0 < n) :
 ∃ A', (∀ W : World, (Instr.sliceAt T (.slice A n c) (some (.int .i64 1)) none none).run P W = .ok (.slice A' (n - 1) (c - 1)) W) ∧ Rd w B size A' (n - 1) (xs.drop size) ∧ A' ≠ none ∧ ∀ L, (∀ b o z, A = some ⟨b, o, z⟩ → L ≤ b) → ∀ b o z, A' = some ⟨b, o, z⟩ → L ≤ b := by
 obtain ⟨A', h1, h2, h3⟩ := cut_1 T hT hs hr hnc hn
 refine ⟨A', h1, h2, h3, fun L hL b o z e => ?_⟩
 obtain ⟨b0, o0, rfl, _⟩ := hr.at_ hn
 have h4 := h1 w
 rw [run_sliceAt_slice w T _ _ _ _ hT, run_slice_l w T _ n c hT .i64 1 (by omega) (by omega), hs] at h4
 simp only [Result.andThen, sliced] at h4
 rw [e] at h4
 have hb : b = b0 := by
  split at h4
  ·simp at h4; exact h4.1.symm
  ·simp [Addr.add] at h4
   have h5 := congrArg Addr.block h4
   split at h5 <;> exact h5.symm
 rw [hb]
 exact hL b0 o0 none rfl
structure B3 (w V : World) (ty : TypeId) (a b c : Array Value) : Prop where
 h3 : Bk V w.heap.size ty a
 h6 : Bk V (w.heap.size + 1) ty b
 h7 : Bk V (w.heap.size + 2) 47 c
 hb : Below w.heap.size w V
theorem b3_new (w : World) (a b c : Array Value) (t : TypeId) : B3 w (((w.alloc (.cells a t)).alloc (.cells b t)).alloc (.cells c 47)) t a b c := by
 have h1 := two_blocks w a b t t
 have h2 := Bk.new ((w.alloc (.cells a t)).alloc (.cells b t)) 47 c
 exact ⟨h1.1.alloc _, h1.2.1.alloc _, by simpa using h2, h1.2.2.1.alloc (by simp; omega) _⟩
section
variable {w V V' : World} {ty : TypeId} {a b c : Array Value}
theorem B3.below (h : B3 w V ty a b c) (hb : Below V.heap.size V V') : B3 w V' ty a b c := ⟨h.h3.below hb h.h3.lt, h.h6.below hb h.h6.lt, h.h7.below hb h.h7.lt, h.hb.trans (hb.mono h.hb.size)⟩
theorem B3.drew (h : B3 w V ty a b c) : B3 w V.drew ty a b c := ⟨h.h3, h.h6, h.h7, h.hb.drew⟩
theorem B3.grown {row : Option Nat} (h : B3 w V ty a b c) (hg : V.grownBy V' row) (hr : ∀ g, row = some g → w.heap.size + 3 ≤ g) : B3 w V' ty a b c :=
 ⟨h.h3.grown hg (fun e => by have := hr _ e; omega), h.h6.grown hg (fun e => by have := hr _ e; omega), h.h7.grown hg (fun e => by have := hr _ e; omega), h.hb.grown hg h.hb.size fun k hk => by have := hr k hk; omega⟩
theorem B3.set6 (h : B3 w V ty a b c) (x y z : Value) : B3 w (((V.setCell ⟨w.heap.size + 1, 0, none⟩ x).setCell ⟨w.heap.size + 1, 1, none⟩ y).setCell ⟨w.heap.size + 1, 2, none⟩ z) ty a (((b.setIfInBounds 0 x).setIfInBounds 1 y).setIfInBounds 2 z) c :=
 ⟨bk_set_ne (bk_set_ne (bk_set_ne h.h3 (show w.heap.size + 1 ≠ _ by omega)) (show w.heap.size + 1 ≠ _ by omega)) (show w.heap.size + 1 ≠ _ by omega), ((h.h6.set_ 0 x).set_ 1 y).set_ 2 z,
  bk_set_ne (bk_set_ne (bk_set_ne h.h7 (show w.heap.size + 1 ≠ _ by omega)) (show w.heap.size + 1 ≠ _ by omega)) (show w.heap.size + 1 ≠ _ by omega),
  ((h.hb.setCell (show w.heap.size ≤ w.heap.size + 1 by omega) _).setCell (show w.heap.size ≤ w.heap.size + 1 by omega) _).setCell (show w.heap.size ≤ w.heap.size + 1 by omega) _⟩
theorem B3.set7 (h : B3 w V ty a b c) (x y : Value) : B3 w ((V.setCell ⟨w.heap.size + 2, 0, none⟩ x).setCell ⟨w.heap.size + 2, 1, none⟩ y) ty a b ((c.setIfInBounds 0 x).setIfInBounds 1 y) :=
 ⟨bk_set_ne (bk_set_ne h.h3 (show w.heap.size + 2 ≠ _ by omega)) (show w.heap.size + 2 ≠ _ by omega), bk_set_ne (bk_set_ne h.h6 (show w.heap.size + 2 ≠ _ by omega)) (show w.heap.size + 2 ≠ _ by omega), (h.h7.set_ 0 x).set_ 1 y,
  (h.hb.setCell (show w.heap.size ≤ w.heap.size + 2 by omega) _).setCell (show w.heap.size ≤ w.heap.size + 2 by omega) _⟩
theorem own_set3 {base : Nat} {e : TypeId} {size n : Nat} {v : Value} {xs : List Value} (h : V.ownsRow base e size v n xs) {g : Nat} (hg : g < base) (x y z : Value) : (((V.setCell ⟨g, 0, none⟩ x).setCell ⟨g, 1, none⟩ y).setCell ⟨g, 2, none⟩ z).ownsRow base e size v n xs := own_set (own_set (own_set h hg _) hg _) hg _
theorem own_set2 {base : Nat} {e : TypeId} {size n : Nat} {v : Value} {xs : List Value} (h : V.ownsRow base e size v n xs) {g : Nat} (hg : g < base) (x y : Value) : ((V.setCell ⟨g, 0, none⟩ x).setCell ⟨g, 1, none⟩ y).ownsRow base e size v n xs := own_set (own_set h hg _) hg _
theorem c3 {g : Nat} {t : TypeId} {x y z : Value} (h : Bk V g t #[x, y, z]) : V.cell? ⟨g, 0, none⟩ = some x ∧ V.cell? ⟨g, 1, none⟩ = some y ∧ V.cell? ⟨g, 2, none⟩ = some z ∧ V.frozen? ⟨g, 0, none⟩ = false ∧ V.frozen? ⟨g, 1, none⟩ = false ∧ V.frozen? ⟨g, 2, none⟩ = false ∧ g < V.heap.size :=
 ⟨h.cell 0, h.cell 1, h.cell 2, h.frozen 0, h.frozen 1, h.frozen 2, h.lt⟩
theorem c2 {g : Nat} {t : TypeId} {x y : Value} (h : Bk V g t #[x, y]) : V.cell? ⟨g, 0, none⟩ = some x ∧ V.cell? ⟨g, 1, none⟩ = some y ∧ V.frozen? ⟨g, 0, none⟩ = false ∧ V.frozen? ⟨g, 1, none⟩ = false ∧ g < V.heap.size :=
 ⟨h.cell 0, h.cell 1, h.frozen 0, h.frozen 1, h.lt⟩
end
set_option maxRecDepth 100000 in
theorem rgives20 (a : Int) (w : World) : Calls Tryz.prog 47 #[.int .u64 a] w fun e w' => e = .returned (.agg #[.int .i64 40, .int .u64 a]) ∧ Below w.heap.size w w' := by
 go_enter Tryz.func47, Tryz.ntmps47
 go_wp2
 refine ⟨rfl, .agg #[.int .i64 40, .int .u64 a], ?_, rfl, (Below.refl _ _).alloc (Nat.le_refl _) _⟩
 simp [results, Tryz.results47, go_sem]
set_option maxRecDepth 100000 in
set_option maxHeartbeats 8000000 in
theorem rq_new (o : QO) (vs : Array Value) (a : Int) (L B : Nat) (w : World) (hq : RQ L B w vs o) (hL : L ≤ w.heap.size) (hB : B ≤ w.heap.size) (hok : QOk 100 o) (ha : U64' a) :
 Calls Tryz.prog 24 #[.agg vs, .string ⟨#[110, 101, 119]⟩, .int .u64 a] w (DoesRQ L B w (qP 0 a o)) := by
 obtain ⟨is, cap0, A0, n0, c0, hvs, his, hn0⟩ := hq.cells (by rintro cap l rfl; exact hok.2.2)
 subst hvs
 have HQ := Lib.hid hq
 have HIs := Lib.hid his
 obtain ⟨W1, hW1⟩ : ∃ W1, ((w.alloc (.cells #[.bool is, .int .u64 cap0, .slice A0 n0 c0] 35)).alloc (.cells #[.bool false, .int .u64 0, .slice none 0 0] 35)).alloc (.cells #[.int .i64 0, .int .u64 0] 47) = W1 := ⟨_, rfl⟩
 have htb := b3_new w #[.bool is, .int .u64 cap0, .slice A0 n0 c0] #[.bool false, .int .u64 0, .slice none 0 0] #[.int .i64 0, .int .u64 0] 35
 simp only [hW1] at htb
 have HH := Lib.hid htb
 have HW1 := Lib.hid hW1
 clear htb hW1 hq his
 go_enter Tryz.func24, Tryz.ntmps24
 go_upto_region 1 with fail
 rw [HW1.out]
 clear HW1
 have k0 := (c3 HH.out.h3).1
 have k1 := (c3 HH.out.h3).2.1
 have k2 := (c3 HH.out.h3).2.2.1
 have hwr : IntKind.u64.wrap (n0 : Int) = n0 := by rw [IntKind.wrap_u64]; omega
 rcases o with _ | ⟨cap, l⟩
 ·obtain ⟨rfl⟩ : is = false := HIs.out
  have qc := c3 HH.out.h6; have e0 := qc.1; have e1 := qc.2.1; have e2 := qc.2.2.1; have f0 := qc.2.2.2.1; have f1 := qc.2.2.2.2.1; have f2 := qc.2.2.2.2.2.1; have kf := qc.2.2.2.2.2.2; clear qc
  have qc := c2 HH.out.h7; have d0 := qc.1; have d1 := qc.2.1; have h0 := qc.2.2.1; have h1 := qc.2.2.2.1; have kg := qc.2.2.2.2; clear qc
  obtain ⟨V, hV⟩ : ∃ V, (((((W1.setCell ⟨(w.heap.size + 1), 0, none⟩ (.bool true)).setCell ⟨(w.heap.size + 1), 1, none⟩ (.int .u64 a)).setCell ⟨(w.heap.size + 1), 2, none⟩ (.slice none 0 0)).setCell ⟨(w.heap.size + 2), 0, none⟩ (.int .i64 0)).setCell ⟨(w.heap.size + 2), 1, none⟩ (.int .u64 0)) = V := ⟨_, rfl⟩
  have HHn : Hid (B3 w V 35 #[.bool false, .int .u64 cap0, .slice A0 n0 c0] #[.bool true, .int .u64 a, .slice none 0 0] #[.int .i64 0, .int .u64 0]) := by show B3 _ _ _ _ _ _; rw [← hV]; exact (HH.out.set6 _ _ _).set7 _ _
  have HBn := Lib.hid HHn.out.hb
  have HQn : Hid (RQo L B w.heap.size V #[.bool true, .int .u64 a, .slice none 0 0] (some (a, []))) := by show RQo _ _ _ _ _ _; exact ⟨none, 0, 0, rfl, ⟨⟨Nat.le_refl _, fun _ => rfl⟩, fun b o z e => by cases e⟩, .inl (Rd.nil _ _ _ _)⟩
  have HV := Lib.hid hV
  clear hV
  go_wp2_with ((with_reducible show bodyPost _ _ _ _ _ _); rw [HV.out]; refine bodyPost_ret (results_cc rfl _ V (w.heap.size + 1) (w.heap.size + 2) 35 47 #[.bool true, .int .u64 a, .slice none 0 0] #[.int .i64 0, .int .u64 0] _ _ (by rfl) HHn.out.h6 Tryz.underlying35 rfl (by kernel_rfl) (by rfl) HHn.out.h7 Tryz.underlying47 rfl (by kernel_rfl)) rfl ?_; exact ⟨_, _, rfl, HQn.out, ⟨_, _, rfl⟩, HBn.out⟩)
 ·obtain ⟨rfl⟩ : is = true := HIs.out
  obtain ⟨A9, n9, c9, e9, hs9, hr9⟩ := HQ.out
  simp only [Array.mk.injEq, List.cons.injEq, Value.int.injEq, Value.slice.injEq, and_true, true_and] at e9
  obtain ⟨rfl, rfl, rfl, rfl⟩ := e9
  have HR := Lib.hid (hr9.more hB)
  have HRB := Lib.hid hr9
  have HS9 := Lib.hid hs9
  have HLl := Lib.hid hr9.u64Len
  clear hr9
  go_upto_region 3 with fail
  clear k0 k1 k2
  obtain ⟨V, hV⟩ : ∃ V, W1.drew = V := ⟨_, rfl⟩
  refine wp_region_held_drew (S := (fun w' => w'.rangeAt w.heap.size 0 (#[.bool true, .int .u64 cap0, .slice A0 n0 c0] : Array Value).toList)) (by kernel_rfl) ?_ (fun hHeld => ?_)
  ·exact HH.out.h3.rng
  refine loadA 0 #[.bool true, .int .u64 cap0, .slice A0 n0 c0] Tryz.underlying35 rfl (by kernel_rfl) ?_ ?_
  ·(intro w hSw; exact hSw)
  try simp only [Act.put, pS]
  have HH : Hid (B3 w V 35 #[.bool true, .int .u64 cap0, .slice A0 n0 c0] #[.bool false, .int .u64 0, .slice none 0 0] #[.int .i64 0, .int .u64 0]) := by show B3 _ _ _ _ _ _; rw [← hV]; exact HH.out.drew
  rw [hV] at hHeld ⊢
  clear hV
  refine comeA 1 fun K hK => ?_
  go_simp
  refine (rgives20 4 _).mono ?_
  rintro e V1 ⟨rfl, hb⟩
  have HH := Lib.hid (HH.out.below hb)
  clear hb
  go_simp
  refine hK.out _ _ ?_ (fun hHeld => ?_)
  ·exact HH.out.h3.rng
  clear hK K
  try simp only [Act.put, pS]
  refine comeA 2 fun K hK => ?_
  have qc := c3 HH.out.h6; have e0 := qc.1; have e1 := qc.2.1; have e2 := qc.2.2.1; have f0 := qc.2.2.2.1; have f1 := qc.2.2.2.2.1; have f2 := qc.2.2.2.2.2.1; have kf := qc.2.2.2.2.2.2; clear qc
  go_simp
  clear e0 f0 e1 f1 e2 f2 kf
  obtain ⟨V8, hX⟩ : ∃ X, (((V1.setCell ⟨(w.heap.size + 1), 0, none⟩ (.bool true)).setCell ⟨(w.heap.size + 1), 1, none⟩ (.int .u64 cap0)).setCell ⟨(w.heap.size + 1), 2, none⟩ (.slice A0 n0 c0)) = X := ⟨_, rfl⟩
  have HH : Hid (B3 w V8 35 #[.bool true, .int .u64 cap0, .slice A0 n0 c0] #[.bool true, .int .u64 cap0, .slice A0 n0 c0] #[.int .i64 0, .int .u64 0]) := by show B3 _ _ _ _ _ _; rw [← hX]; exact HH.out.set6 _ _ _
  rw [hX]
  clear hX
  refine hK.out _ _ ?_ (fun hHeld => ?_)
  ·exact HH.out.h3.rng
  clear hK K
  try simp only [Act.put, pS]
  refine comeA 3 fun K hK => ?_
  have qc := c2 HH.out.h7; have e0 := qc.1; have e1 := qc.2.1; have f0 := qc.2.2.1; have f1 := qc.2.2.2.1; have kf := qc.2.2.2.2; clear qc
  go_simp
  clear e0 f0 e1 f1 kf
  obtain ⟨V9, hX⟩ : ∃ X, ((V8.setCell ⟨(w.heap.size + 2), 0, none⟩ (.int .i64 40)).setCell ⟨(w.heap.size + 2), 1, none⟩ (.int .u64 4)) = X := ⟨_, rfl⟩
  have HH : Hid (B3 w V9 35 #[.bool true, .int .u64 cap0, .slice A0 n0 c0] #[.bool true, .int .u64 cap0, .slice A0 n0 c0] #[.int .i64 40, .int .u64 4]) := by show B3 _ _ _ _ _ _; rw [← hX]; exact HH.out.set7 _ _
  rw [hX]
  clear hX
  refine hK.out _ _ ?_ (fun hHeld => ?_)
  ·exact HH.out.h3.rng
  clear hK K
  try simp only [Act.put, pS]
  refine wpAnyH_done (by kernel_rfl) ?_ _
  try simp only [Act.put, pS]
  have HQ3 := Lib.hid (RQo.of w.heap.size (HQ.out.below HH.out.hb hB))
  go_wp2_with ((with_reducible show bodyPost _ _ _ _ _ _); refine bodyPost_ret (results_cc rfl _ V9 (w.heap.size + 1) (w.heap.size + 2) 35 47 #[.bool true, .int .u64 cap0, .slice A0 n0 c0] #[.int .i64 40, .int .u64 4] _ _ (by rfl) HH.out.h6 Tryz.underlying35 rfl (by kernel_rfl) (by rfl) HH.out.h7 Tryz.underlying47 rfl (by kernel_rfl)) rfl ?_; exact ⟨_, _, rfl, HQ3.out, ⟨_, _, rfl⟩, HH.out.hb⟩)
set_option maxRecDepth 100000 in
set_option maxHeartbeats 8000000 in
theorem rq_size (o : QO) (vs : Array Value) (a : Int) (L B : Nat) (w : World) (hq : RQ L B w vs o) (hL : L ≤ w.heap.size) (hB : B ≤ w.heap.size) (hok : QOk 100 o) (ha : U64' a) :
 Calls Tryz.prog 24 #[.agg vs, .string ⟨#[115, 105, 122, 101]⟩, .int .u64 a] w (DoesRQ L B w (qP 4 a o)) := by
 obtain ⟨is, cap0, A0, n0, c0, hvs, his, hn0⟩ := hq.cells (by rintro cap l rfl; exact hok.2.2)
 subst hvs
 have HQ := Lib.hid hq
 have HIs := Lib.hid his
 obtain ⟨W1, hW1⟩ : ∃ W1, ((w.alloc (.cells #[.bool is, .int .u64 cap0, .slice A0 n0 c0] 35)).alloc (.cells #[.bool false, .int .u64 0, .slice none 0 0] 35)).alloc (.cells #[.int .i64 0, .int .u64 0] 47) = W1 := ⟨_, rfl⟩
 have htb := b3_new w #[.bool is, .int .u64 cap0, .slice A0 n0 c0] #[.bool false, .int .u64 0, .slice none 0 0] #[.int .i64 0, .int .u64 0] 35
 simp only [hW1] at htb
 have HH := Lib.hid htb
 have HW1 := Lib.hid hW1
 clear htb hW1 hq his
 go_enter Tryz.func24, Tryz.ntmps24
 go_upto_region 1 with fail
 rw [HW1.out]
 clear HW1
 have k0 := (c3 HH.out.h3).1
 have k1 := (c3 HH.out.h3).2.1
 have k2 := (c3 HH.out.h3).2.2.1
 have hwr : IntKind.u64.wrap (n0 : Int) = n0 := by rw [IntKind.wrap_u64]; omega
 rcases o with _ | ⟨cap, l⟩
 ·obtain ⟨rfl⟩ : is = false := HIs.out
  go_upto_region 9 with fail
  clear k0 k1 k2
  obtain ⟨V, hV⟩ : ∃ V, W1.drew = V := ⟨_, rfl⟩
  refine wp_region_held_drew (S := (fun w' => w'.rangeAt w.heap.size 0 (#[.bool false, .int .u64 cap0, .slice A0 n0 c0] : Array Value).toList)) (by kernel_rfl) ?_ (fun hHeld => ?_)
  ·exact HH.out.h3.rng
  refine loadA 0 #[.bool false, .int .u64 cap0, .slice A0 n0 c0] Tryz.underlying35 rfl (by kernel_rfl) ?_ ?_
  ·(intro w hSw; exact hSw)
  try simp only [Act.put, pS]
  have HH : Hid (B3 w V 35 #[.bool false, .int .u64 cap0, .slice A0 n0 c0] #[.bool false, .int .u64 0, .slice none 0 0] #[.int .i64 0, .int .u64 0]) := by show B3 _ _ _ _ _ _; rw [← hV]; exact HH.out.drew
  rw [hV] at hHeld ⊢
  clear hV
  refine comeA 1 fun K hK => ?_
  go_simp
  refine (rgives20 3 _).mono ?_
  rintro e V1 ⟨rfl, hb⟩
  have HH := Lib.hid (HH.out.below hb)
  clear hb
  go_simp
  refine hK.out _ _ ?_ (fun hHeld => ?_)
  ·exact HH.out.h3.rng
  clear hK K
  try simp only [Act.put, pS]
  refine comeA 2 fun K hK => ?_
  have qc := c3 HH.out.h6; have e0 := qc.1; have e1 := qc.2.1; have e2 := qc.2.2.1; have f0 := qc.2.2.2.1; have f1 := qc.2.2.2.2.1; have f2 := qc.2.2.2.2.2.1; have kf := qc.2.2.2.2.2.2; clear qc
  go_simp
  clear e0 f0 e1 f1 e2 f2 kf
  obtain ⟨V8, hX⟩ : ∃ X, (((V1.setCell ⟨(w.heap.size + 1), 0, none⟩ (.bool false)).setCell ⟨(w.heap.size + 1), 1, none⟩ (.int .u64 cap0)).setCell ⟨(w.heap.size + 1), 2, none⟩ (.slice A0 n0 c0)) = X := ⟨_, rfl⟩
  have HH : Hid (B3 w V8 35 #[.bool false, .int .u64 cap0, .slice A0 n0 c0] #[.bool false, .int .u64 cap0, .slice A0 n0 c0] #[.int .i64 0, .int .u64 0]) := by show B3 _ _ _ _ _ _; rw [← hX]; exact HH.out.set6 _ _ _
  rw [hX]
  clear hX
  refine hK.out _ _ ?_ (fun hHeld => ?_)
  ·exact HH.out.h3.rng
  clear hK K
  try simp only [Act.put, pS]
  refine comeA 3 fun K hK => ?_
  have qc := c2 HH.out.h7; have e0 := qc.1; have e1 := qc.2.1; have f0 := qc.2.2.1; have f1 := qc.2.2.2.1; have kf := qc.2.2.2.2; clear qc
  go_simp
  clear e0 f0 e1 f1 kf
  obtain ⟨V9, hX⟩ : ∃ X, ((V8.setCell ⟨(w.heap.size + 2), 0, none⟩ (.int .i64 40)).setCell ⟨(w.heap.size + 2), 1, none⟩ (.int .u64 3)) = X := ⟨_, rfl⟩
  have HH : Hid (B3 w V9 35 #[.bool false, .int .u64 cap0, .slice A0 n0 c0] #[.bool false, .int .u64 cap0, .slice A0 n0 c0] #[.int .i64 40, .int .u64 3]) := by show B3 _ _ _ _ _ _; rw [← hX]; exact HH.out.set7 _ _
  rw [hX]
  clear hX
  refine hK.out _ _ ?_ (fun hHeld => ?_)
  ·exact HH.out.h3.rng
  clear hK K
  try simp only [Act.put, pS]
  refine wpAnyH_done (by kernel_rfl) ?_ _
  try simp only [Act.put, pS]
  have HQ3 := Lib.hid (RQo.of w.heap.size (HQ.out.below HH.out.hb hB))
  go_wp2_with ((with_reducible show bodyPost _ _ _ _ _ _); refine bodyPost_ret (results_cc rfl _ V9 (w.heap.size + 1) (w.heap.size + 2) 35 47 #[.bool false, .int .u64 cap0, .slice A0 n0 c0] #[.int .i64 40, .int .u64 3] _ _ (by rfl) HH.out.h6 Tryz.underlying35 rfl (by kernel_rfl) (by rfl) HH.out.h7 Tryz.underlying47 rfl (by kernel_rfl)) rfl ?_; exact ⟨_, _, rfl, HQ3.out, ⟨_, _, rfl⟩, HH.out.hb⟩)
 ·obtain ⟨rfl⟩ : is = true := HIs.out
  obtain ⟨A9, n9, c9, e9, hs9, hr9⟩ := HQ.out
  simp only [Array.mk.injEq, List.cons.injEq, Value.int.injEq, Value.slice.injEq, and_true, true_and] at e9
  obtain ⟨rfl, rfl, rfl, rfl⟩ := e9
  have HR := Lib.hid (hr9.more hB)
  have HRB := Lib.hid hr9
  have HS9 := Lib.hid hs9
  have HLl := Lib.hid hr9.u64Len
  clear hr9
  have qc := c3 HH.out.h6; have e0 := qc.1; have e1 := qc.2.1; have e2 := qc.2.2.1; have f0 := qc.2.2.2.1; have f1 := qc.2.2.2.2.1; have f2 := qc.2.2.2.2.2.1; have kf := qc.2.2.2.2.2.2; clear qc
  have qc := c2 HH.out.h7; have d0 := qc.1; have d1 := qc.2.1; have h0 := qc.2.2.1; have h1 := qc.2.2.2.1; have kg := qc.2.2.2.2; clear qc
  obtain ⟨V, hV⟩ : ∃ V, (((((W1.setCell ⟨(w.heap.size + 1), 0, none⟩ (.bool true)).setCell ⟨(w.heap.size + 1), 1, none⟩ (.int .u64 cap0)).setCell ⟨(w.heap.size + 1), 2, none⟩ (.slice A0 n0 c0)).setCell ⟨(w.heap.size + 2), 0, none⟩ (.int .i64 0)).setCell ⟨(w.heap.size + 2), 1, none⟩ (.int .u64 (n0 : Int))) = V := ⟨_, rfl⟩
  have HHn : Hid (B3 w V 35 #[.bool true, .int .u64 cap0, .slice A0 n0 c0] #[.bool true, .int .u64 cap0, .slice A0 n0 c0] #[.int .i64 0, .int .u64 (n0 : Int)]) := by show B3 _ _ _ _ _ _; rw [← hV]; exact (HH.out.set6 _ _ _).set7 _ _
  have HBn := Lib.hid HHn.out.hb
  have HQn : Hid (RQo L B w.heap.size V #[.bool true, .int .u64 cap0, .slice A0 n0 c0] (some (cap0, l))) := by show RQo _ _ _ _ _ _; exact RQo.of _ (HQ.out.below HBn.out hB)
  have HV := Lib.hid hV
  clear hV
  go_wp2_with ((with_reducible show bodyPost _ _ _ _ _ _); rw [HV.out]; refine bodyPost_ret (results_cc rfl _ V (w.heap.size + 1) (w.heap.size + 2) 35 47 #[.bool true, .int .u64 cap0, .slice A0 n0 c0] #[.int .i64 0, .int .u64 (n0 : Int)] _ _ (by rfl) HHn.out.h6 Tryz.underlying35 rfl (by kernel_rfl) (by rfl) HHn.out.h7 Tryz.underlying47 rfl (by kernel_rfl)) rfl ?_; exact ⟨_, _, rfl, HQn.out, ⟨_, _, rfl⟩, HBn.out⟩)
set_option maxRecDepth 100000 in
set_option maxHeartbeats 8000000 in
theorem rq_drop (o : QO) (vs : Array Value) (a : Int) (L B : Nat) (w : World) (hq : RQ L B w vs o) (hL : L ≤ w.heap.size) (hB : B ≤ w.heap.size) (hok : QOk 100 o) (ha : U64' a) :
 Calls Tryz.prog 24 #[.agg vs, .string ⟨#[100, 114, 111, 112]⟩, .int .u64 a] w (DoesRQ L B w (qP 5 a o)) := by
 obtain ⟨is, cap0, A0, n0, c0, hvs, his, hn0⟩ := hq.cells (by rintro cap l rfl; exact hok.2.2)
 subst hvs
 have HQ := Lib.hid hq
 have HIs := Lib.hid his
 obtain ⟨W1, hW1⟩ : ∃ W1, ((w.alloc (.cells #[.bool is, .int .u64 cap0, .slice A0 n0 c0] 35)).alloc (.cells #[.bool false, .int .u64 0, .slice none 0 0] 35)).alloc (.cells #[.int .i64 0, .int .u64 0] 47) = W1 := ⟨_, rfl⟩
 have htb := b3_new w #[.bool is, .int .u64 cap0, .slice A0 n0 c0] #[.bool false, .int .u64 0, .slice none 0 0] #[.int .i64 0, .int .u64 0] 35
 simp only [hW1] at htb
 have HH := Lib.hid htb
 have HW1 := Lib.hid hW1
 clear htb hW1 hq his
 go_enter Tryz.func24, Tryz.ntmps24
 go_upto_region 1 with fail
 rw [HW1.out]
 clear HW1
 have k0 := (c3 HH.out.h3).1
 have k1 := (c3 HH.out.h3).2.1
 have k2 := (c3 HH.out.h3).2.2.1
 have hwr : IntKind.u64.wrap (n0 : Int) = n0 := by rw [IntKind.wrap_u64]; omega
 rcases o with _ | ⟨cap, l⟩
 ·obtain ⟨rfl⟩ : is = false := HIs.out
  go_upto_region 9 with fail
  clear k0 k1 k2
  obtain ⟨V, hV⟩ : ∃ V, W1.drew = V := ⟨_, rfl⟩
  refine wp_region_held_drew (S := (fun w' => w'.rangeAt w.heap.size 0 (#[.bool false, .int .u64 cap0, .slice A0 n0 c0] : Array Value).toList)) (by kernel_rfl) ?_ (fun hHeld => ?_)
  ·exact HH.out.h3.rng
  refine loadA 0 #[.bool false, .int .u64 cap0, .slice A0 n0 c0] Tryz.underlying35 rfl (by kernel_rfl) ?_ ?_
  ·(intro w hSw; exact hSw)
  try simp only [Act.put, pS]
  have HH : Hid (B3 w V 35 #[.bool false, .int .u64 cap0, .slice A0 n0 c0] #[.bool false, .int .u64 0, .slice none 0 0] #[.int .i64 0, .int .u64 0]) := by show B3 _ _ _ _ _ _; rw [← hV]; exact HH.out.drew
  rw [hV] at hHeld ⊢
  clear hV
  refine comeA 1 fun K hK => ?_
  go_simp
  refine (rgives20 3 _).mono ?_
  rintro e V1 ⟨rfl, hb⟩
  have HH := Lib.hid (HH.out.below hb)
  clear hb
  go_simp
  refine hK.out _ _ ?_ (fun hHeld => ?_)
  ·exact HH.out.h3.rng
  clear hK K
  try simp only [Act.put, pS]
  refine comeA 2 fun K hK => ?_
  have qc := c3 HH.out.h6; have e0 := qc.1; have e1 := qc.2.1; have e2 := qc.2.2.1; have f0 := qc.2.2.2.1; have f1 := qc.2.2.2.2.1; have f2 := qc.2.2.2.2.2.1; have kf := qc.2.2.2.2.2.2; clear qc
  go_simp
  clear e0 f0 e1 f1 e2 f2 kf
  obtain ⟨V8, hX⟩ : ∃ X, (((V1.setCell ⟨(w.heap.size + 1), 0, none⟩ (.bool false)).setCell ⟨(w.heap.size + 1), 1, none⟩ (.int .u64 cap0)).setCell ⟨(w.heap.size + 1), 2, none⟩ (.slice A0 n0 c0)) = X := ⟨_, rfl⟩
  have HH : Hid (B3 w V8 35 #[.bool false, .int .u64 cap0, .slice A0 n0 c0] #[.bool false, .int .u64 cap0, .slice A0 n0 c0] #[.int .i64 0, .int .u64 0]) := by show B3 _ _ _ _ _ _; rw [← hX]; exact HH.out.set6 _ _ _
  rw [hX]
  clear hX
  refine hK.out _ _ ?_ (fun hHeld => ?_)
  ·exact HH.out.h3.rng
  clear hK K
  try simp only [Act.put, pS]
  refine comeA 3 fun K hK => ?_
  have qc := c2 HH.out.h7; have e0 := qc.1; have e1 := qc.2.1; have f0 := qc.2.2.1; have f1 := qc.2.2.2.1; have kf := qc.2.2.2.2; clear qc
  go_simp
  clear e0 f0 e1 f1 kf
  obtain ⟨V9, hX⟩ : ∃ X, ((V8.setCell ⟨(w.heap.size + 2), 0, none⟩ (.int .i64 40)).setCell ⟨(w.heap.size + 2), 1, none⟩ (.int .u64 3)) = X := ⟨_, rfl⟩
  have HH : Hid (B3 w V9 35 #[.bool false, .int .u64 cap0, .slice A0 n0 c0] #[.bool false, .int .u64 cap0, .slice A0 n0 c0] #[.int .i64 40, .int .u64 3]) := by show B3 _ _ _ _ _ _; rw [← hX]; exact HH.out.set7 _ _
  rw [hX]
  clear hX
  refine hK.out _ _ ?_ (fun hHeld => ?_)
  ·exact HH.out.h3.rng
  clear hK K
  try simp only [Act.put, pS]
  refine wpAnyH_done (by kernel_rfl) ?_ _
  try simp only [Act.put, pS]
  have HQ3 := Lib.hid (RQo.of w.heap.size (HQ.out.below HH.out.hb hB))
  go_wp2_with ((with_reducible show bodyPost _ _ _ _ _ _); refine bodyPost_ret (results_cc rfl _ V9 (w.heap.size + 1) (w.heap.size + 2) 35 47 #[.bool false, .int .u64 cap0, .slice A0 n0 c0] #[.int .i64 40, .int .u64 3] _ _ (by rfl) HH.out.h6 Tryz.underlying35 rfl (by kernel_rfl) (by rfl) HH.out.h7 Tryz.underlying47 rfl (by kernel_rfl)) rfl ?_; exact ⟨_, _, rfl, HQ3.out, ⟨_, _, rfl⟩, HH.out.hb⟩)
 ·obtain ⟨rfl⟩ : is = true := HIs.out
  obtain ⟨A9, n9, c9, e9, hs9, hr9⟩ := HQ.out
  simp only [Array.mk.injEq, List.cons.injEq, Value.int.injEq, Value.slice.injEq, and_true, true_and] at e9
  obtain ⟨rfl, rfl, rfl, rfl⟩ := e9
  have HR := Lib.hid (hr9.more hB)
  have HRB := Lib.hid hr9
  have HS9 := Lib.hid hs9
  have HLl := Lib.hid hr9.u64Len
  clear hr9
  by_cases hn : 0 < n0
  ·have hn1 : decide ((n0 : Int) > 0) = true := decide_eq_true (by omega)
   have hl0 : l ≠ [] := by intro e; rw [e] at HLl; have := HLl.out; simp at this; omega
   have HE : Hid (qP 5 a (some (cap0, l)) = some (cap0, l)) := by show _ = _; simp [qP, qS]; try omega
   go_upto_region 17 with fail
   clear k0 k1 k2
   obtain ⟨V, hV⟩ : ∃ V, W1.drew = V := ⟨_, rfl⟩
   refine wp_region_held_drew (S := (fun w' => w'.rangeAt w.heap.size 0 (#[.bool true, .int .u64 cap0, .slice A0 n0 c0] : Array Value).toList)) (by kernel_rfl) ?_ (fun hHeld => ?_)
   ·exact HH.out.h3.rng
   refine loadA 0 #[.bool true, .int .u64 cap0, .slice A0 n0 c0] Tryz.underlying35 rfl (by kernel_rfl) ?_ ?_
   ·(intro w hSw; exact hSw)
   try simp only [Act.put, pS]
   have HH : Hid (B3 w V 35 #[.bool true, .int .u64 cap0, .slice A0 n0 c0] #[.bool false, .int .u64 0, .slice none 0 0] #[.int .i64 0, .int .u64 0]) := by show B3 _ _ _ _ _ _; rw [← hV]; exact HH.out.drew
   rw [hV] at hHeld ⊢
   clear hV
   refine comeA 1 fun K hK => ?_
   go_simp
   refine (rgives20 5 _).mono ?_
   rintro e V1 ⟨rfl, hb⟩
   have HH := Lib.hid (HH.out.below hb)
   clear hb
   go_simp
   refine hK.out _ _ ?_ (fun hHeld => ?_)
   ·exact HH.out.h3.rng
   clear hK K
   try simp only [Act.put, pS]
   refine comeA 2 fun K hK => ?_
   have qc := c3 HH.out.h6; have e0 := qc.1; have e1 := qc.2.1; have e2 := qc.2.2.1; have f0 := qc.2.2.2.1; have f1 := qc.2.2.2.2.1; have f2 := qc.2.2.2.2.2.1; have kf := qc.2.2.2.2.2.2; clear qc
   go_simp
   clear e0 f0 e1 f1 e2 f2 kf
   obtain ⟨V8, hX⟩ : ∃ X, (((V1.setCell ⟨(w.heap.size + 1), 0, none⟩ (.bool true)).setCell ⟨(w.heap.size + 1), 1, none⟩ (.int .u64 cap0)).setCell ⟨(w.heap.size + 1), 2, none⟩ (.slice A0 n0 c0)) = X := ⟨_, rfl⟩
   have HH : Hid (B3 w V8 35 #[.bool true, .int .u64 cap0, .slice A0 n0 c0] #[.bool true, .int .u64 cap0, .slice A0 n0 c0] #[.int .i64 0, .int .u64 0]) := by show B3 _ _ _ _ _ _; rw [← hX]; exact HH.out.set6 _ _ _
   rw [hX]
   clear hX
   refine hK.out _ _ ?_ (fun hHeld => ?_)
   ·exact HH.out.h3.rng
   clear hK K
   try simp only [Act.put, pS]
   refine comeA 3 fun K hK => ?_
   have qc := c2 HH.out.h7; have e0 := qc.1; have e1 := qc.2.1; have f0 := qc.2.2.1; have f1 := qc.2.2.2.1; have kf := qc.2.2.2.2; clear qc
   go_simp
   clear e0 f0 e1 f1 kf
   obtain ⟨V9, hX⟩ : ∃ X, ((V8.setCell ⟨(w.heap.size + 2), 0, none⟩ (.int .i64 40)).setCell ⟨(w.heap.size + 2), 1, none⟩ (.int .u64 5)) = X := ⟨_, rfl⟩
   have HH : Hid (B3 w V9 35 #[.bool true, .int .u64 cap0, .slice A0 n0 c0] #[.bool true, .int .u64 cap0, .slice A0 n0 c0] #[.int .i64 40, .int .u64 5]) := by show B3 _ _ _ _ _ _; rw [← hX]; exact HH.out.set7 _ _
   rw [hX]
   clear hX
   refine hK.out _ _ ?_ (fun hHeld => ?_)
   ·exact HH.out.h3.rng
   clear hK K
   try simp only [Act.put, pS]
   refine wpAnyH_done (by kernel_rfl) ?_ _
   try simp only [Act.put, pS]
   have HQ3 := Lib.hid (RQo.of w.heap.size (HQ.out.below HH.out.hb hB))
   go_wp2_with ((with_reducible show bodyPost _ _ _ _ _ _); refine bodyPost_ret (results_cc rfl _ V9 (w.heap.size + 1) (w.heap.size + 2) 35 47 #[.bool true, .int .u64 cap0, .slice A0 n0 c0] #[.int .i64 40, .int .u64 5] _ _ (by rfl) HH.out.h6 Tryz.underlying35 rfl (by kernel_rfl) (by rfl) HH.out.h7 Tryz.underlying47 rfl (by kernel_rfl)) rfl ?_; exact ⟨_, _, rfl, (by rw [HE.out]; exact HQ3.out), ⟨_, _, rfl⟩, HH.out.hb⟩)
  ·have hn1 : decide ((n0 : Int) > 0) = false := decide_eq_false (by omega)
   obtain ⟨rfl⟩ : l = [] := by have := HLl.out; exact List.eq_nil_of_length_eq_zero (by omega)
   have qc := c3 HH.out.h6; have e0 := qc.1; have e1 := qc.2.1; have e2 := qc.2.2.1; have f0 := qc.2.2.2.1; have f1 := qc.2.2.2.2.1; have f2 := qc.2.2.2.2.2.1; have kf := qc.2.2.2.2.2.2; clear qc
   have qc := c2 HH.out.h7; have d0 := qc.1; have d1 := qc.2.1; have h0 := qc.2.2.1; have h1 := qc.2.2.2.1; have kg := qc.2.2.2.2; clear qc
   obtain ⟨V, hV⟩ : ∃ V, (((((W1.setCell ⟨(w.heap.size + 1), 0, none⟩ (.bool false)).setCell ⟨(w.heap.size + 1), 1, none⟩ (.int .u64 0)).setCell ⟨(w.heap.size + 1), 2, none⟩ (.slice none 0 0)).setCell ⟨(w.heap.size + 2), 0, none⟩ (.int .i64 0)).setCell ⟨(w.heap.size + 2), 1, none⟩ (.int .u64 0)) = V := ⟨_, rfl⟩
   have HHn : Hid (B3 w V 35 #[.bool true, .int .u64 cap0, .slice A0 n0 c0] #[.bool false, .int .u64 0, .slice none 0 0] #[.int .i64 0, .int .u64 0]) := by show B3 _ _ _ _ _ _; rw [← hV]; exact (HH.out.set6 _ _ _).set7 _ _
   have HBn := Lib.hid HHn.out.hb
   have HQn : Hid (RQo L B w.heap.size V #[.bool false, .int .u64 0, .slice none 0 0] (none)) := by show RQo _ _ _ _ _ _; exact rfl
   have HV := Lib.hid hV
   clear hV
   go_wp2_with ((with_reducible show bodyPost _ _ _ _ _ _); rw [HV.out]; refine bodyPost_ret (results_cc rfl _ V (w.heap.size + 1) (w.heap.size + 2) 35 47 #[.bool false, .int .u64 0, .slice none 0 0] #[.int .i64 0, .int .u64 0] _ _ (by rfl) HHn.out.h6 Tryz.underlying35 rfl (by kernel_rfl) (by rfl) HHn.out.h7 Tryz.underlying47 rfl (by kernel_rfl)) rfl ?_; exact ⟨_, _, rfl, HQn.out, ⟨_, _, rfl⟩, HBn.out⟩)
set_option maxRecDepth 100000 in
set_option maxHeartbeats 8000000 in
theorem rq_put (o : QO) (vs : Array Value) (a : Int) (L B : Nat) (w : World) (hq : RQ L B w vs o) (hL : L ≤ w.heap.size) (hB : B ≤ w.heap.size) (hok : QOk 100 o) (ha : U64' a) :
 Calls Tryz.prog 24 #[.agg vs, .string ⟨#[112, 117, 116]⟩, .int .u64 a] w (DoesRQ L B w (qP 1 a o)) := by
 obtain ⟨is, cap0, A0, n0, c0, hvs, his, hn0⟩ := hq.cells (by rintro cap l rfl; exact hok.2.2)
 subst hvs
 have HQ := Lib.hid hq
 have HIs := Lib.hid his
 obtain ⟨W1, hW1⟩ : ∃ W1, ((w.alloc (.cells #[.bool is, .int .u64 cap0, .slice A0 n0 c0] 35)).alloc (.cells #[.bool false, .int .u64 0, .slice none 0 0] 35)).alloc (.cells #[.int .i64 0, .int .u64 0] 47) = W1 := ⟨_, rfl⟩
 have htb := b3_new w #[.bool is, .int .u64 cap0, .slice A0 n0 c0] #[.bool false, .int .u64 0, .slice none 0 0] #[.int .i64 0, .int .u64 0] 35
 simp only [hW1] at htb
 have HH := Lib.hid htb
 have HW1 := Lib.hid hW1
 clear htb hW1 hq his
 go_enter Tryz.func24, Tryz.ntmps24
 go_upto_region 1 with fail
 rw [HW1.out]
 clear HW1
 have k0 := (c3 HH.out.h3).1
 have k1 := (c3 HH.out.h3).2.1
 have k2 := (c3 HH.out.h3).2.2.1
 have hwr : IntKind.u64.wrap (n0 : Int) = n0 := by rw [IntKind.wrap_u64]; omega
 rcases o with _ | ⟨cap, l⟩
 ·obtain ⟨rfl⟩ : is = false := HIs.out
  go_upto_region 9 with fail
  clear k0 k1 k2
  obtain ⟨V, hV⟩ : ∃ V, W1.drew = V := ⟨_, rfl⟩
  refine wp_region_held_drew (S := (fun w' => w'.rangeAt w.heap.size 0 (#[.bool false, .int .u64 cap0, .slice A0 n0 c0] : Array Value).toList)) (by kernel_rfl) ?_ (fun hHeld => ?_)
  ·exact HH.out.h3.rng
  refine loadA 0 #[.bool false, .int .u64 cap0, .slice A0 n0 c0] Tryz.underlying35 rfl (by kernel_rfl) ?_ ?_
  ·(intro w hSw; exact hSw)
  try simp only [Act.put, pS]
  have HH : Hid (B3 w V 35 #[.bool false, .int .u64 cap0, .slice A0 n0 c0] #[.bool false, .int .u64 0, .slice none 0 0] #[.int .i64 0, .int .u64 0]) := by show B3 _ _ _ _ _ _; rw [← hV]; exact HH.out.drew
  rw [hV] at hHeld ⊢
  clear hV
  refine comeA 1 fun K hK => ?_
  go_simp
  refine (rgives20 3 _).mono ?_
  rintro e V1 ⟨rfl, hb⟩
  have HH := Lib.hid (HH.out.below hb)
  clear hb
  go_simp
  refine hK.out _ _ ?_ (fun hHeld => ?_)
  ·exact HH.out.h3.rng
  clear hK K
  try simp only [Act.put, pS]
  refine comeA 2 fun K hK => ?_
  have qc := c3 HH.out.h6; have e0 := qc.1; have e1 := qc.2.1; have e2 := qc.2.2.1; have f0 := qc.2.2.2.1; have f1 := qc.2.2.2.2.1; have f2 := qc.2.2.2.2.2.1; have kf := qc.2.2.2.2.2.2; clear qc
  go_simp
  clear e0 f0 e1 f1 e2 f2 kf
  obtain ⟨V8, hX⟩ : ∃ X, (((V1.setCell ⟨(w.heap.size + 1), 0, none⟩ (.bool false)).setCell ⟨(w.heap.size + 1), 1, none⟩ (.int .u64 cap0)).setCell ⟨(w.heap.size + 1), 2, none⟩ (.slice A0 n0 c0)) = X := ⟨_, rfl⟩
  have HH : Hid (B3 w V8 35 #[.bool false, .int .u64 cap0, .slice A0 n0 c0] #[.bool false, .int .u64 cap0, .slice A0 n0 c0] #[.int .i64 0, .int .u64 0]) := by show B3 _ _ _ _ _ _; rw [← hX]; exact HH.out.set6 _ _ _
  rw [hX]
  clear hX
  refine hK.out _ _ ?_ (fun hHeld => ?_)
  ·exact HH.out.h3.rng
  clear hK K
  try simp only [Act.put, pS]
  refine comeA 3 fun K hK => ?_
  have qc := c2 HH.out.h7; have e0 := qc.1; have e1 := qc.2.1; have f0 := qc.2.2.1; have f1 := qc.2.2.2.1; have kf := qc.2.2.2.2; clear qc
  go_simp
  clear e0 f0 e1 f1 kf
  obtain ⟨V9, hX⟩ : ∃ X, ((V8.setCell ⟨(w.heap.size + 2), 0, none⟩ (.int .i64 40)).setCell ⟨(w.heap.size + 2), 1, none⟩ (.int .u64 3)) = X := ⟨_, rfl⟩
  have HH : Hid (B3 w V9 35 #[.bool false, .int .u64 cap0, .slice A0 n0 c0] #[.bool false, .int .u64 cap0, .slice A0 n0 c0] #[.int .i64 40, .int .u64 3]) := by show B3 _ _ _ _ _ _; rw [← hX]; exact HH.out.set7 _ _
  rw [hX]
  clear hX
  refine hK.out _ _ ?_ (fun hHeld => ?_)
  ·exact HH.out.h3.rng
  clear hK K
  try simp only [Act.put, pS]
  refine wpAnyH_done (by kernel_rfl) ?_ _
  try simp only [Act.put, pS]
  have HQ3 := Lib.hid (RQo.of w.heap.size (HQ.out.below HH.out.hb hB))
  go_wp2_with ((with_reducible show bodyPost _ _ _ _ _ _); refine bodyPost_ret (results_cc rfl _ V9 (w.heap.size + 1) (w.heap.size + 2) 35 47 #[.bool false, .int .u64 cap0, .slice A0 n0 c0] #[.int .i64 40, .int .u64 3] _ _ (by rfl) HH.out.h6 Tryz.underlying35 rfl (by kernel_rfl) (by rfl) HH.out.h7 Tryz.underlying47 rfl (by kernel_rfl)) rfl ?_; exact ⟨_, _, rfl, HQ3.out, ⟨_, _, rfl⟩, HH.out.hb⟩)
 ·obtain ⟨rfl⟩ : is = true := HIs.out
  obtain ⟨A9, n9, c9, e9, hs9, hr9⟩ := HQ.out
  simp only [Array.mk.injEq, List.cons.injEq, Value.int.injEq, Value.slice.injEq, and_true, true_and] at e9
  obtain ⟨rfl, rfl, rfl, rfl⟩ := e9
  have HR := Lib.hid (hr9.more hB)
  have HRB := Lib.hid hr9
  have HS9 := Lib.hid hs9
  have HLl := Lib.hid hr9.u64Len
  clear hr9
  by_cases hfull : cap0 ≤ (n0 : Int)
  ·have HE : Hid (qP 1 a (some (cap0, l)) = some (cap0, l)) := by show _ = _; show (if cap0 ≤ (l.length : Int) then some (cap0, l) else some (cap0, l ++ [a])) = _; exact if_pos (by have := HLl.out; omega)
   go_upto_region 13 with fail
   clear k0 k1 k2
   obtain ⟨V, hV⟩ : ∃ V, W1.drew = V := ⟨_, rfl⟩
   refine wp_region_held_drew (S := (fun w' => w'.rangeAt w.heap.size 0 (#[.bool true, .int .u64 cap0, .slice A0 n0 c0] : Array Value).toList)) (by kernel_rfl) ?_ (fun hHeld => ?_)
   ·exact HH.out.h3.rng
   refine loadA 0 #[.bool true, .int .u64 cap0, .slice A0 n0 c0] Tryz.underlying35 rfl (by kernel_rfl) ?_ ?_
   ·(intro w hSw; exact hSw)
   try simp only [Act.put, pS]
   have HH : Hid (B3 w V 35 #[.bool true, .int .u64 cap0, .slice A0 n0 c0] #[.bool false, .int .u64 0, .slice none 0 0] #[.int .i64 0, .int .u64 0]) := by show B3 _ _ _ _ _ _; rw [← hV]; exact HH.out.drew
   rw [hV] at hHeld ⊢
   clear hV
   refine comeA 1 fun K hK => ?_
   go_simp
   refine (rgives20 2 _).mono ?_
   rintro e V1 ⟨rfl, hb⟩
   have HH := Lib.hid (HH.out.below hb)
   clear hb
   go_simp
   refine hK.out _ _ ?_ (fun hHeld => ?_)
   ·exact HH.out.h3.rng
   clear hK K
   try simp only [Act.put, pS]
   refine comeA 2 fun K hK => ?_
   have qc := c3 HH.out.h6; have e0 := qc.1; have e1 := qc.2.1; have e2 := qc.2.2.1; have f0 := qc.2.2.2.1; have f1 := qc.2.2.2.2.1; have f2 := qc.2.2.2.2.2.1; have kf := qc.2.2.2.2.2.2; clear qc
   go_simp
   clear e0 f0 e1 f1 e2 f2 kf
   obtain ⟨V8, hX⟩ : ∃ X, (((V1.setCell ⟨(w.heap.size + 1), 0, none⟩ (.bool true)).setCell ⟨(w.heap.size + 1), 1, none⟩ (.int .u64 cap0)).setCell ⟨(w.heap.size + 1), 2, none⟩ (.slice A0 n0 c0)) = X := ⟨_, rfl⟩
   have HH : Hid (B3 w V8 35 #[.bool true, .int .u64 cap0, .slice A0 n0 c0] #[.bool true, .int .u64 cap0, .slice A0 n0 c0] #[.int .i64 0, .int .u64 0]) := by show B3 _ _ _ _ _ _; rw [← hX]; exact HH.out.set6 _ _ _
   rw [hX]
   clear hX
   refine hK.out _ _ ?_ (fun hHeld => ?_)
   ·exact HH.out.h3.rng
   clear hK K
   try simp only [Act.put, pS]
   refine comeA 3 fun K hK => ?_
   have qc := c2 HH.out.h7; have e0 := qc.1; have e1 := qc.2.1; have f0 := qc.2.2.1; have f1 := qc.2.2.2.1; have kf := qc.2.2.2.2; clear qc
   go_simp
   clear e0 f0 e1 f1 kf
   obtain ⟨V9, hX⟩ : ∃ X, ((V8.setCell ⟨(w.heap.size + 2), 0, none⟩ (.int .i64 40)).setCell ⟨(w.heap.size + 2), 1, none⟩ (.int .u64 2)) = X := ⟨_, rfl⟩
   have HH : Hid (B3 w V9 35 #[.bool true, .int .u64 cap0, .slice A0 n0 c0] #[.bool true, .int .u64 cap0, .slice A0 n0 c0] #[.int .i64 40, .int .u64 2]) := by show B3 _ _ _ _ _ _; rw [← hX]; exact HH.out.set7 _ _
   rw [hX]
   clear hX
   refine hK.out _ _ ?_ (fun hHeld => ?_)
   ·exact HH.out.h3.rng
   clear hK K
   try simp only [Act.put, pS]
   refine wpAnyH_done (by kernel_rfl) ?_ _
   try simp only [Act.put, pS]
   have HQ3 := Lib.hid (RQo.of w.heap.size (HQ.out.below HH.out.hb hB))
   go_wp2_with ((with_reducible show bodyPost _ _ _ _ _ _); refine bodyPost_ret (results_cc rfl _ V9 (w.heap.size + 1) (w.heap.size + 2) 35 47 #[.bool true, .int .u64 cap0, .slice A0 n0 c0] #[.int .i64 40, .int .u64 2] _ _ (by rfl) HH.out.h6 Tryz.underlying35 rfl (by kernel_rfl) (by rfl) HH.out.h7 Tryz.underlying47 rfl (by kernel_rfl)) rfl ?_; exact ⟨_, _, rfl, (by rw [HE.out]; exact HQ3.out), ⟨_, _, rfl⟩, HH.out.hb⟩)
  ·obtain ⟨i0, hi0, hy0, hy1, hy2⟩ := info_parts info_u64
   have hwn : IntKind.u64.wrap ((n0 : Int) + 1) = (n0 : Int) + 1 := by rw [IntKind.wrap_u64]; omega
   have HE : Hid (qP 1 a (some (cap0, l)) = some (cap0, l ++ [a])) := by show _ = _; show (if cap0 ≤ (l.length : Int) then some (cap0, l) else some (cap0, l ++ [a])) = _; exact if_neg (by have := HLl.out; omega)
   go_upto_region 15 with fail
   clear k0 k1 k2
   obtain ⟨V, hV⟩ : ∃ V, W1.drew = V := ⟨_, rfl⟩
   refine wp_region_held_drew (S := (fun w' => w'.cell? ⟨w.heap.size, 2, none⟩ = some (.slice A0 n0 c0) ∧ w'.cell? ⟨w.heap.size, 1, none⟩ = some (.int .u64 cap0))) (by kernel_rfl) ?_ (fun hHeld => ?_)
   ·exact ⟨HH.out.h3.cell 2, HH.out.h3.cell 1⟩
   refine takeA 0 ?_
   try simp only [Act.put, pS]
   refine takeA 1 ?_
   try simp only [Act.put, pS]
   refine takeA 3 ?_
   try simp only [Act.put, pS]
   refine takeA 4 ?_
   try simp only [Act.put, pS]
   refine takeA 6 ?_
   try simp only [Act.put, pS]
   refine takeA 10 ?_
   try simp only [Act.put, pS]
   refine takeA 11 ?_
   try simp only [Act.put, pS]
   refine takeA 12 ?_
   try simp only [Act.put, pS]
   have HH : Hid (B3 w V 35 #[.bool true, .int .u64 cap0, .slice A0 n0 c0] #[.bool false, .int .u64 0, .slice none 0 0] #[.int .i64 0, .int .u64 0]) := by show B3 _ _ _ _ _ _; rw [← hV]; exact HH.out.drew
   rw [hV] at hHeld ⊢
   clear hV
   have HM : Hid (w.heap.size + 2 < V.heap.size) := HH.out.h7.lt
   have HVs : Hid (V.heap.size ≤ V.heap.size) := Nat.le_refl _
   refine comeH2 2 7 rfl rfl rfl rfl rfl rfl rfl rfl (by kernel_rfl) (by rfl) (by rfl) (fun K hK => ?_) (fun K hK => ?_)
   ·have HVs0 := HVs
    go_simp
    obtain ⟨V2, hW7⟩ : ∃ W7, V.alloc (.cells #[] 32) = W7 := ⟨_, rfl⟩
    have hb : Below V.heap.size V V2 := by rw [← hW7]; exact (Below.refl _ _).alloc (Nat.le_refl _) _
    have HVs : Hid (V.heap.size ≤ V2.heap.size) := Nat.le_trans HVs.out hb.size
    have HO : Hid (V2.ownsRow V.heap.size 32 1 (.slice (some ⟨V.heap.size, 0, none⟩) 0 0) 0 []) := by show World.ownsRow _ _ _ _ _ _ _; rw [← hW7]; exact own_new V #[] 32 (size := 1) (m := 0) rfl (by simp [maxLen]) HVs0.out
    have HH := Lib.hid (HH.out.below hb)
    rw [hW7]
    clear hW7 hb
    refine hK.out _ _ ?_ (fun hHeld => ?_)
    ·exact ⟨HH.out.h3.cell 2, HH.out.h3.cell 1⟩
    clear hK K
    try simp only [Act.put, pS]
    refine comeH2 5 7 rfl rfl rfl rfl rfl rfl rfl rfl (by kernel_rfl) (by rfl) (by rfl) (fun K hK => ?_) (fun K hK => ?_)
    ·have hvs := HVs.out
     have hm := HM.out
     refine wp_app (.tmp 70) (.tmp 72) 33 V.heap.size 32 i0 _ 1 8 Tryz.underlying33 hi0 hy0 hy1 hy2 rfl (by decide) _ 0 _ rfl HO.out _ _ _ _ _ rfl (HR.out.below HH.out.hb) (u64_one _) (by simp only [maxLen]; omega) (by omega) hvs ?_
     intro v5 V3 hown hg hv5
     have HO5 : Hid (V3.ownsRow V.heap.size 32 1 v5 n0 (l.map (Value.int .u64))) := by show World.ownsRow _ _ _ _ _ _ _; simpa using hown
     have HH := Lib.hid (HH.out.grown hg (fun g e => by have := (HO.out.lt _ e).1; omega))
     have HVs : Hid (V.heap.size ≤ V3.heap.size) := Nat.le_trans hvs hg.size
     have HO := HO5
     clear hown hg hv5 HO5 hvs hm
     obtain ⟨A5, c5, rfl, _⟩ := own_slv HO.out
     refine hK.out _ _ ?_ (fun hHeld => ?_)
     ·exact ⟨HH.out.h3.cell 2, HH.out.h3.cell 1⟩
     clear hK K
     try simp only [Act.put, pS]
     refine comeA 7 fun K hK => ?_
     go_simp
     obtain ⟨V4, hW7⟩ : ∃ W7, V3.alloc (.cells #[.int .u64 a] 32) = W7 := ⟨_, rfl⟩
     have hb : Below V3.heap.size V3 V4 := by rw [← hW7]; exact (Below.refl _ _).alloc (Nat.le_refl _) _
     have HVs : Hid (V.heap.size ≤ V4.heap.size) := Nat.le_trans HVs.out hb.size
     have HN : Hid (Bk V4 V3.heap.size 32 #[.int .u64 a]) := by show Bk _ _ _ _; rw [← hW7]; exact Bk.new _ _ _
     have HO := Lib.hid (own_below HO.out hb)
     have HH := Lib.hid (HH.out.below hb)
     rw [hW7]
     clear hW7 hb
     refine hK.out _ _ ?_ (fun hHeld => ?_)
     ·exact ⟨HH.out.h3.cell 2, HH.out.h3.cell 1⟩
     clear hK K
     try simp only [Act.put, pS]
     refine comeA 8 fun K hK => ?_
     have hvs := HVs.out
     have hm := HM.out
     refine wp_app (.tmp 73) (.tmp 75) 33 V.heap.size 32 i0 _ 1 8 Tryz.underlying33 hi0 hy0 hy1 hy2 rfl (by decide) _ n0 _ rfl HO.out _ _ 1 1 _ rfl (rd_bk1 HN.out) (u64_one _) (by simp only [maxLen]; omega) (by omega) hvs ?_
     intro v5 V5 hown hg hv5
     have HO5 : Hid (V5.ownsRow V.heap.size 32 1 v5 (n0 + 1) ((l ++ [a]).map (Value.int .u64))) := by show World.ownsRow _ _ _ _ _ _ _; simpa using hown
     have HH := Lib.hid (HH.out.grown hg (fun g e => by have := (HO.out.lt _ e).1; omega))
     have HVs : Hid (V.heap.size ≤ V5.heap.size) := Nat.le_trans hvs hg.size
     have HO := HO5
     clear hown hg hv5 HO5 hvs hm
     obtain ⟨A6, c6, rfl, _⟩ := own_slv HO.out
     refine hK.out _ _ ?_ (fun hHeld => ?_)
     ·exact ⟨HH.out.h3.cell 2, HH.out.h3.cell 1⟩
     clear hK K
     try simp only [Act.put, pS]
     refine takeA 9 ?_
     try simp only [Act.put, pS]
     refine comeA 13 fun K hK => ?_
     have qc := c3 HH.out.h6; have e0 := qc.1; have e1 := qc.2.1; have e2 := qc.2.2.1; have f0 := qc.2.2.2.1; have f1 := qc.2.2.2.2.1; have f2 := qc.2.2.2.2.2.1; have kf := qc.2.2.2.2.2.2; clear qc
     go_simp
     clear e0 f0 e1 f1 e2 f2 kf
     obtain ⟨V8, hX⟩ : ∃ X, (((V5.setCell ⟨(w.heap.size + 1), 0, none⟩ (.bool true)).setCell ⟨(w.heap.size + 1), 1, none⟩ (.int .u64 cap0)).setCell ⟨(w.heap.size + 1), 2, none⟩ (.slice A6 (n0 + 1) c6)) = X := ⟨_, rfl⟩
     have HH : Hid (B3 w V8 35 #[.bool true, .int .u64 cap0, .slice A0 n0 c0] #[.bool true, .int .u64 cap0, .slice A6 (n0 + 1) c6] #[.int .i64 0, .int .u64 0]) := by show B3 _ _ _ _ _ _; rw [← hX]; exact HH.out.set6 _ _ _
     have HO : Hid (V8.ownsRow V.heap.size 32 1 (.slice A6 (n0 + 1) c6) (n0 + 1) ((l ++ [a]).map (Value.int .u64))) := by show World.ownsRow _ _ _ _ _ _ _; rw [← hX]; exact own_set3 HO.out (by have := HM.out; omega) _ _ _
     rw [hX]
     clear hX
     refine hK.out _ _ ?_ (fun hHeld => ?_)
     ·exact ⟨HH.out.h3.cell 2, HH.out.h3.cell 1⟩
     clear hK K
     try simp only [Act.put, pS]
     refine comeA 14 fun K hK => ?_
     have qc := c2 HH.out.h7; have e0 := qc.1; have e1 := qc.2.1; have f0 := qc.2.2.1; have f1 := qc.2.2.2.1; have kf := qc.2.2.2.2; clear qc
     go_simp
     clear e0 f0 e1 f1 kf
     obtain ⟨V9, hX⟩ : ∃ X, ((V8.setCell ⟨(w.heap.size + 2), 0, none⟩ (.int .i64 0)).setCell ⟨(w.heap.size + 2), 1, none⟩ (.int .u64 ((n0 : Int) + 1))) = X := ⟨_, rfl⟩
     have HH : Hid (B3 w V9 35 #[.bool true, .int .u64 cap0, .slice A0 n0 c0] #[.bool true, .int .u64 cap0, .slice A6 (n0 + 1) c6] #[.int .i64 0, .int .u64 ((n0 : Int) + 1)]) := by show B3 _ _ _ _ _ _; rw [← hX]; exact HH.out.set7 _ _
     have HO : Hid (V9.ownsRow V.heap.size 32 1 (.slice A6 (n0 + 1) c6) (n0 + 1) ((l ++ [a]).map (Value.int .u64))) := by show World.ownsRow _ _ _ _ _ _ _; rw [← hX]; exact own_set2 HO.out (by have := HM.out; omega) _ _
     rw [hX]
     clear hX
     refine hK.out _ _ ?_ (fun hHeld => ?_)
     ·exact ⟨HH.out.h3.cell 2, HH.out.h3.cell 1⟩
     clear hK K
     try simp only [Act.put, pS]
     refine wpAnyH_done (by kernel_rfl) ?_ _
     try simp only [Act.put, pS]
     go_wp2_with ((with_reducible show bodyPost _ _ _ _ _ _); refine bodyPost_ret (results_cc rfl _ V9 (w.heap.size + 1) (w.heap.size + 2) 35 47 #[.bool true, .int .u64 cap0, .slice A6 (n0 + 1) c6] #[.int .i64 0, .int .u64 ((n0 : Int) + 1)] _ _ (by rfl) HH.out.h6 Tryz.underlying35 rfl (by kernel_rfl) (by rfl) HH.out.h7 Tryz.underlying47 rfl (by kernel_rfl)) rfl ?_; exact ⟨_, _, rfl, (by rw [HE.out]; exact rq_own hL (own_base HO.out (by have := HM.out; omega))), ⟨_, _, rfl⟩, HH.out.hb⟩)
    ·have HOlt : Hid (V.heap.size < V2.heap.size) := (HO.out.lt _ rfl).2
     go_simp
     obtain ⟨V3, hW7⟩ : ∃ W7, V2.alloc (.cells #[.int .u64 a] 32) = W7 := ⟨_, rfl⟩
     have hb : Below V2.heap.size V2 V3 := by rw [← hW7]; exact (Below.refl _ _).alloc (Nat.le_refl _) _
     have HVs : Hid (V.heap.size ≤ V3.heap.size) := Nat.le_trans HVs.out hb.size
     have HN : Hid (Bk V3 V2.heap.size 32 #[.int .u64 a]) := by show Bk _ _ _ _; rw [← hW7]; exact Bk.new _ _ _
     have HO := Lib.hid (own_below HO.out hb)
     have HH := Lib.hid (HH.out.below hb)
     rw [hW7]
     clear hW7 hb
     refine hK.out _ _ ?_ (fun hHeld => ?_)
     ·exact ⟨HH.out.h3.cell 2, HH.out.h3.cell 1⟩
     clear hK K
     try simp only [Act.put, pS]
     have HNE : Hid (V.heap.size ≠ V2.heap.size) := by have := HOlt.out; show _ ≠ _; omega
     refine comeA 5 fun K hK => ?_
     have hvs := HVs.out
     have hm := HM.out
     refine wp_app (.tmp 70) (.tmp 72) 33 V.heap.size 32 i0 _ 1 8 Tryz.underlying33 hi0 hy0 hy1 hy2 rfl (by decide) _ 0 _ rfl HO.out _ _ _ _ _ rfl (HR.out.below HH.out.hb) (u64_one _) (by simp only [maxLen]; omega) (by omega) hvs ?_
     intro v5 V4 hown hg hv5
     have HO5 : Hid (V4.ownsRow V.heap.size 32 1 v5 n0 (l.map (Value.int .u64))) := by show World.ownsRow _ _ _ _ _ _ _; simpa using hown
     have HH := Lib.hid (HH.out.grown hg (fun g e => by have := (HO.out.lt _ e).1; omega))
     have HN := Lib.hid (HN.out.grown hg (fun e => HNE.out (Option.some.inj e)))
     have HVs : Hid (V.heap.size ≤ V4.heap.size) := Nat.le_trans hvs hg.size
     have HO := HO5
     clear hown hg hv5 HO5 hvs hm
     obtain ⟨A5, c5, rfl, _⟩ := own_slv HO.out
     refine hK.out _ _ ?_ (fun hHeld => ?_)
     ·exact ⟨HH.out.h3.cell 2, HH.out.h3.cell 1⟩
     clear hK K
     try simp only [Act.put, pS]
     refine comeA 8 fun K hK => ?_
     have hvs := HVs.out
     have hm := HM.out
     refine wp_app (.tmp 73) (.tmp 75) 33 V.heap.size 32 i0 _ 1 8 Tryz.underlying33 hi0 hy0 hy1 hy2 rfl (by decide) _ n0 _ rfl HO.out _ _ 1 1 _ rfl (rd_bk1 HN.out) (u64_one _) (by simp only [maxLen]; omega) (by omega) hvs ?_
     intro v5 V5 hown hg hv5
     have HO5 : Hid (V5.ownsRow V.heap.size 32 1 v5 (n0 + 1) ((l ++ [a]).map (Value.int .u64))) := by show World.ownsRow _ _ _ _ _ _ _; simpa using hown
     have HH := Lib.hid (HH.out.grown hg (fun g e => by have := (HO.out.lt _ e).1; omega))
     have HVs : Hid (V.heap.size ≤ V5.heap.size) := Nat.le_trans hvs hg.size
     have HO := HO5
     clear hown hg hv5 HO5 hvs hm
     obtain ⟨A6, c6, rfl, _⟩ := own_slv HO.out
     refine hK.out _ _ ?_ (fun hHeld => ?_)
     ·exact ⟨HH.out.h3.cell 2, HH.out.h3.cell 1⟩
     clear hK K
     try simp only [Act.put, pS]
     refine takeA 9 ?_
     try simp only [Act.put, pS]
     refine comeA 13 fun K hK => ?_
     have qc := c3 HH.out.h6; have e0 := qc.1; have e1 := qc.2.1; have e2 := qc.2.2.1; have f0 := qc.2.2.2.1; have f1 := qc.2.2.2.2.1; have f2 := qc.2.2.2.2.2.1; have kf := qc.2.2.2.2.2.2; clear qc
     go_simp
     clear e0 f0 e1 f1 e2 f2 kf
     obtain ⟨V8, hX⟩ : ∃ X, (((V5.setCell ⟨(w.heap.size + 1), 0, none⟩ (.bool true)).setCell ⟨(w.heap.size + 1), 1, none⟩ (.int .u64 cap0)).setCell ⟨(w.heap.size + 1), 2, none⟩ (.slice A6 (n0 + 1) c6)) = X := ⟨_, rfl⟩
     have HH : Hid (B3 w V8 35 #[.bool true, .int .u64 cap0, .slice A0 n0 c0] #[.bool true, .int .u64 cap0, .slice A6 (n0 + 1) c6] #[.int .i64 0, .int .u64 0]) := by show B3 _ _ _ _ _ _; rw [← hX]; exact HH.out.set6 _ _ _
     have HO : Hid (V8.ownsRow V.heap.size 32 1 (.slice A6 (n0 + 1) c6) (n0 + 1) ((l ++ [a]).map (Value.int .u64))) := by show World.ownsRow _ _ _ _ _ _ _; rw [← hX]; exact own_set3 HO.out (by have := HM.out; omega) _ _ _
     rw [hX]
     clear hX
     refine hK.out _ _ ?_ (fun hHeld => ?_)
     ·exact ⟨HH.out.h3.cell 2, HH.out.h3.cell 1⟩
     clear hK K
     try simp only [Act.put, pS]
     refine comeA 14 fun K hK => ?_
     have qc := c2 HH.out.h7; have e0 := qc.1; have e1 := qc.2.1; have f0 := qc.2.2.1; have f1 := qc.2.2.2.1; have kf := qc.2.2.2.2; clear qc
     go_simp
     clear e0 f0 e1 f1 kf
     obtain ⟨V9, hX⟩ : ∃ X, ((V8.setCell ⟨(w.heap.size + 2), 0, none⟩ (.int .i64 0)).setCell ⟨(w.heap.size + 2), 1, none⟩ (.int .u64 ((n0 : Int) + 1))) = X := ⟨_, rfl⟩
     have HH : Hid (B3 w V9 35 #[.bool true, .int .u64 cap0, .slice A0 n0 c0] #[.bool true, .int .u64 cap0, .slice A6 (n0 + 1) c6] #[.int .i64 0, .int .u64 ((n0 : Int) + 1)]) := by show B3 _ _ _ _ _ _; rw [← hX]; exact HH.out.set7 _ _
     have HO : Hid (V9.ownsRow V.heap.size 32 1 (.slice A6 (n0 + 1) c6) (n0 + 1) ((l ++ [a]).map (Value.int .u64))) := by show World.ownsRow _ _ _ _ _ _ _; rw [← hX]; exact own_set2 HO.out (by have := HM.out; omega) _ _
     rw [hX]
     clear hX
     refine hK.out _ _ ?_ (fun hHeld => ?_)
     ·exact ⟨HH.out.h3.cell 2, HH.out.h3.cell 1⟩
     clear hK K
     try simp only [Act.put, pS]
     refine wpAnyH_done (by kernel_rfl) ?_ _
     try simp only [Act.put, pS]
     go_wp2_with ((with_reducible show bodyPost _ _ _ _ _ _); refine bodyPost_ret (results_cc rfl _ V9 (w.heap.size + 1) (w.heap.size + 2) 35 47 #[.bool true, .int .u64 cap0, .slice A6 (n0 + 1) c6] #[.int .i64 0, .int .u64 ((n0 : Int) + 1)] _ _ (by rfl) HH.out.h6 Tryz.underlying35 rfl (by kernel_rfl) (by rfl) HH.out.h7 Tryz.underlying47 rfl (by kernel_rfl)) rfl ?_; exact ⟨_, _, rfl, (by rw [HE.out]; exact rq_own hL (own_base HO.out (by have := HM.out; omega))), ⟨_, _, rfl⟩, HH.out.hb⟩)
   ·go_simp
    obtain ⟨V2, hW7⟩ : ∃ W7, V.alloc (.cells #[.int .u64 a] 32) = W7 := ⟨_, rfl⟩
    have hb : Below V.heap.size V V2 := by rw [← hW7]; exact (Below.refl _ _).alloc (Nat.le_refl _) _
    have HVs : Hid (V.heap.size ≤ V2.heap.size) := Nat.le_trans HVs.out hb.size
    have HN : Hid (Bk V2 V.heap.size 32 #[.int .u64 a]) := by show Bk _ _ _ _; rw [← hW7]; exact Bk.new _ _ _
    have HH := Lib.hid (HH.out.below hb)
    rw [hW7]
    clear hW7 hb
    refine hK.out _ _ ?_ (fun hHeld => ?_)
    ·exact ⟨HH.out.h3.cell 2, HH.out.h3.cell 1⟩
    clear hK K
    try simp only [Act.put, pS]
    have HNlt : Hid (V.heap.size < V2.heap.size) := HN.out.lt
    have HVs0 := HVs
    refine comeA 2 fun K hK => ?_
    go_simp
    obtain ⟨V3, hW7⟩ : ∃ W7, V2.alloc (.cells #[] 32) = W7 := ⟨_, rfl⟩
    have hb : Below V2.heap.size V2 V3 := by rw [← hW7]; exact (Below.refl _ _).alloc (Nat.le_refl _) _
    have HVs : Hid (V.heap.size ≤ V3.heap.size) := Nat.le_trans HVs.out hb.size
    have HO : Hid (V3.ownsRow V.heap.size 32 1 (.slice (some ⟨V2.heap.size, 0, none⟩) 0 0) 0 []) := by show World.ownsRow _ _ _ _ _ _ _; rw [← hW7]; exact own_new V2 #[] 32 (size := 1) (m := 0) rfl (by simp [maxLen]) HVs0.out
    have HN := Lib.hid (HN.out.below hb HN.out.lt)
    have HH := Lib.hid (HH.out.below hb)
    rw [hW7]
    clear hW7 hb
    refine hK.out _ _ ?_ (fun hHeld => ?_)
    ·exact ⟨HH.out.h3.cell 2, HH.out.h3.cell 1⟩
    clear hK K
    try simp only [Act.put, pS]
    have HNE : Hid (V2.heap.size ≠ V.heap.size) := by have := HNlt.out; show _ ≠ _; omega
    refine comeA 5 fun K hK => ?_
    have hvs := HVs.out
    have hm := HM.out
    refine wp_app (.tmp 70) (.tmp 72) 33 V.heap.size 32 i0 _ 1 8 Tryz.underlying33 hi0 hy0 hy1 hy2 rfl (by decide) _ 0 _ rfl HO.out _ _ _ _ _ rfl (HR.out.below HH.out.hb) (u64_one _) (by simp only [maxLen]; omega) (by omega) hvs ?_
    intro v5 V4 hown hg hv5
    have HO5 : Hid (V4.ownsRow V.heap.size 32 1 v5 n0 (l.map (Value.int .u64))) := by show World.ownsRow _ _ _ _ _ _ _; simpa using hown
    have HH := Lib.hid (HH.out.grown hg (fun g e => by have := (HO.out.lt _ e).1; omega))
    have HN := Lib.hid (HN.out.grown hg (fun e => HNE.out (Option.some.inj e)))
    have HVs : Hid (V.heap.size ≤ V4.heap.size) := Nat.le_trans hvs hg.size
    have HO := HO5
    clear hown hg hv5 HO5 hvs hm
    obtain ⟨A5, c5, rfl, _⟩ := own_slv HO.out
    refine hK.out _ _ ?_ (fun hHeld => ?_)
    ·exact ⟨HH.out.h3.cell 2, HH.out.h3.cell 1⟩
    clear hK K
    try simp only [Act.put, pS]
    refine comeA 8 fun K hK => ?_
    have hvs := HVs.out
    have hm := HM.out
    refine wp_app (.tmp 73) (.tmp 75) 33 V.heap.size 32 i0 _ 1 8 Tryz.underlying33 hi0 hy0 hy1 hy2 rfl (by decide) _ n0 _ rfl HO.out _ _ 1 1 _ rfl (rd_bk1 HN.out) (u64_one _) (by simp only [maxLen]; omega) (by omega) hvs ?_
    intro v5 V5 hown hg hv5
    have HO5 : Hid (V5.ownsRow V.heap.size 32 1 v5 (n0 + 1) ((l ++ [a]).map (Value.int .u64))) := by show World.ownsRow _ _ _ _ _ _ _; simpa using hown
    have HH := Lib.hid (HH.out.grown hg (fun g e => by have := (HO.out.lt _ e).1; omega))
    have HVs : Hid (V.heap.size ≤ V5.heap.size) := Nat.le_trans hvs hg.size
    have HO := HO5
    clear hown hg hv5 HO5 hvs hm
    obtain ⟨A6, c6, rfl, _⟩ := own_slv HO.out
    refine hK.out _ _ ?_ (fun hHeld => ?_)
    ·exact ⟨HH.out.h3.cell 2, HH.out.h3.cell 1⟩
    clear hK K
    try simp only [Act.put, pS]
    refine takeA 9 ?_
    try simp only [Act.put, pS]
    refine comeA 13 fun K hK => ?_
    have qc := c3 HH.out.h6; have e0 := qc.1; have e1 := qc.2.1; have e2 := qc.2.2.1; have f0 := qc.2.2.2.1; have f1 := qc.2.2.2.2.1; have f2 := qc.2.2.2.2.2.1; have kf := qc.2.2.2.2.2.2; clear qc
    go_simp
    clear e0 f0 e1 f1 e2 f2 kf
    obtain ⟨V8, hX⟩ : ∃ X, (((V5.setCell ⟨(w.heap.size + 1), 0, none⟩ (.bool true)).setCell ⟨(w.heap.size + 1), 1, none⟩ (.int .u64 cap0)).setCell ⟨(w.heap.size + 1), 2, none⟩ (.slice A6 (n0 + 1) c6)) = X := ⟨_, rfl⟩
    have HH : Hid (B3 w V8 35 #[.bool true, .int .u64 cap0, .slice A0 n0 c0] #[.bool true, .int .u64 cap0, .slice A6 (n0 + 1) c6] #[.int .i64 0, .int .u64 0]) := by show B3 _ _ _ _ _ _; rw [← hX]; exact HH.out.set6 _ _ _
    have HO : Hid (V8.ownsRow V.heap.size 32 1 (.slice A6 (n0 + 1) c6) (n0 + 1) ((l ++ [a]).map (Value.int .u64))) := by show World.ownsRow _ _ _ _ _ _ _; rw [← hX]; exact own_set3 HO.out (by have := HM.out; omega) _ _ _
    rw [hX]
    clear hX
    refine hK.out _ _ ?_ (fun hHeld => ?_)
    ·exact ⟨HH.out.h3.cell 2, HH.out.h3.cell 1⟩
    clear hK K
    try simp only [Act.put, pS]
    refine comeA 14 fun K hK => ?_
    have qc := c2 HH.out.h7; have e0 := qc.1; have e1 := qc.2.1; have f0 := qc.2.2.1; have f1 := qc.2.2.2.1; have kf := qc.2.2.2.2; clear qc
    go_simp
    clear e0 f0 e1 f1 kf
    obtain ⟨V9, hX⟩ : ∃ X, ((V8.setCell ⟨(w.heap.size + 2), 0, none⟩ (.int .i64 0)).setCell ⟨(w.heap.size + 2), 1, none⟩ (.int .u64 ((n0 : Int) + 1))) = X := ⟨_, rfl⟩
    have HH : Hid (B3 w V9 35 #[.bool true, .int .u64 cap0, .slice A0 n0 c0] #[.bool true, .int .u64 cap0, .slice A6 (n0 + 1) c6] #[.int .i64 0, .int .u64 ((n0 : Int) + 1)]) := by show B3 _ _ _ _ _ _; rw [← hX]; exact HH.out.set7 _ _
    have HO : Hid (V9.ownsRow V.heap.size 32 1 (.slice A6 (n0 + 1) c6) (n0 + 1) ((l ++ [a]).map (Value.int .u64))) := by show World.ownsRow _ _ _ _ _ _ _; rw [← hX]; exact own_set2 HO.out (by have := HM.out; omega) _ _
    rw [hX]
    clear hX
    refine hK.out _ _ ?_ (fun hHeld => ?_)
    ·exact ⟨HH.out.h3.cell 2, HH.out.h3.cell 1⟩
    clear hK K
    try simp only [Act.put, pS]
    refine wpAnyH_done (by kernel_rfl) ?_ _
    try simp only [Act.put, pS]
    go_wp2_with ((with_reducible show bodyPost _ _ _ _ _ _); refine bodyPost_ret (results_cc rfl _ V9 (w.heap.size + 1) (w.heap.size + 2) 35 47 #[.bool true, .int .u64 cap0, .slice A6 (n0 + 1) c6] #[.int .i64 0, .int .u64 ((n0 : Int) + 1)] _ _ (by rfl) HH.out.h6 Tryz.underlying35 rfl (by kernel_rfl) (by rfl) HH.out.h7 Tryz.underlying47 rfl (by kernel_rfl)) rfl ?_; exact ⟨_, _, rfl, (by rw [HE.out]; exact rq_own hL (own_base HO.out (by have := HM.out; omega))), ⟨_, _, rfl⟩, HH.out.hb⟩)
set_option maxRecDepth 100000 in
set_option maxHeartbeats 8000000 in
theorem rq_peek (o : QO) (vs : Array Value) (a : Int) (L B : Nat) (w : World) (hq : RQ L B w vs o) (hL : L ≤ w.heap.size) (hB : B ≤ w.heap.size) (hok : QOk 100 o) (ha : U64' a) :
 Calls Tryz.prog 24 #[.agg vs, .string ⟨#[112, 101, 101, 107]⟩, .int .u64 a] w (DoesRQ L B w (qP 3 a o)) := by
 obtain ⟨is, cap0, A0, n0, c0, hvs, his, hn0⟩ := hq.cells (by rintro cap l rfl; exact hok.2.2)
 subst hvs
 have HQ := Lib.hid hq
 have HIs := Lib.hid his
 obtain ⟨W1, hW1⟩ : ∃ W1, ((w.alloc (.cells #[.bool is, .int .u64 cap0, .slice A0 n0 c0] 35)).alloc (.cells #[.bool false, .int .u64 0, .slice none 0 0] 35)).alloc (.cells #[.int .i64 0, .int .u64 0] 47) = W1 := ⟨_, rfl⟩
 have htb := b3_new w #[.bool is, .int .u64 cap0, .slice A0 n0 c0] #[.bool false, .int .u64 0, .slice none 0 0] #[.int .i64 0, .int .u64 0] 35
 simp only [hW1] at htb
 have HH := Lib.hid htb
 have HW1 := Lib.hid hW1
 clear htb hW1 hq his
 go_enter Tryz.func24, Tryz.ntmps24
 go_upto_region 1 with fail
 rw [HW1.out]
 clear HW1
 have k0 := (c3 HH.out.h3).1
 have k1 := (c3 HH.out.h3).2.1
 have k2 := (c3 HH.out.h3).2.2.1
 have hwr : IntKind.u64.wrap (n0 : Int) = n0 := by rw [IntKind.wrap_u64]; omega
 rcases o with _ | ⟨cap, l⟩
 ·obtain ⟨rfl⟩ : is = false := HIs.out
  go_upto_region 9 with fail
  clear k0 k1 k2
  obtain ⟨V, hV⟩ : ∃ V, W1.drew = V := ⟨_, rfl⟩
  refine wp_region_held_drew (S := (fun w' => w'.rangeAt w.heap.size 0 (#[.bool false, .int .u64 cap0, .slice A0 n0 c0] : Array Value).toList)) (by kernel_rfl) ?_ (fun hHeld => ?_)
  ·exact HH.out.h3.rng
  refine loadA 0 #[.bool false, .int .u64 cap0, .slice A0 n0 c0] Tryz.underlying35 rfl (by kernel_rfl) ?_ ?_
  ·(intro w hSw; exact hSw)
  try simp only [Act.put, pS]
  have HH : Hid (B3 w V 35 #[.bool false, .int .u64 cap0, .slice A0 n0 c0] #[.bool false, .int .u64 0, .slice none 0 0] #[.int .i64 0, .int .u64 0]) := by show B3 _ _ _ _ _ _; rw [← hV]; exact HH.out.drew
  rw [hV] at hHeld ⊢
  clear hV
  refine comeA 1 fun K hK => ?_
  go_simp
  refine (rgives20 3 _).mono ?_
  rintro e V1 ⟨rfl, hb⟩
  have HH := Lib.hid (HH.out.below hb)
  clear hb
  go_simp
  refine hK.out _ _ ?_ (fun hHeld => ?_)
  ·exact HH.out.h3.rng
  clear hK K
  try simp only [Act.put, pS]
  refine comeA 2 fun K hK => ?_
  have qc := c3 HH.out.h6; have e0 := qc.1; have e1 := qc.2.1; have e2 := qc.2.2.1; have f0 := qc.2.2.2.1; have f1 := qc.2.2.2.2.1; have f2 := qc.2.2.2.2.2.1; have kf := qc.2.2.2.2.2.2; clear qc
  go_simp
  clear e0 f0 e1 f1 e2 f2 kf
  obtain ⟨V8, hX⟩ : ∃ X, (((V1.setCell ⟨(w.heap.size + 1), 0, none⟩ (.bool false)).setCell ⟨(w.heap.size + 1), 1, none⟩ (.int .u64 cap0)).setCell ⟨(w.heap.size + 1), 2, none⟩ (.slice A0 n0 c0)) = X := ⟨_, rfl⟩
  have HH : Hid (B3 w V8 35 #[.bool false, .int .u64 cap0, .slice A0 n0 c0] #[.bool false, .int .u64 cap0, .slice A0 n0 c0] #[.int .i64 0, .int .u64 0]) := by show B3 _ _ _ _ _ _; rw [← hX]; exact HH.out.set6 _ _ _
  rw [hX]
  clear hX
  refine hK.out _ _ ?_ (fun hHeld => ?_)
  ·exact HH.out.h3.rng
  clear hK K
  try simp only [Act.put, pS]
  refine comeA 3 fun K hK => ?_
  have qc := c2 HH.out.h7; have e0 := qc.1; have e1 := qc.2.1; have f0 := qc.2.2.1; have f1 := qc.2.2.2.1; have kf := qc.2.2.2.2; clear qc
  go_simp
  clear e0 f0 e1 f1 kf
  obtain ⟨V9, hX⟩ : ∃ X, ((V8.setCell ⟨(w.heap.size + 2), 0, none⟩ (.int .i64 40)).setCell ⟨(w.heap.size + 2), 1, none⟩ (.int .u64 3)) = X := ⟨_, rfl⟩
  have HH : Hid (B3 w V9 35 #[.bool false, .int .u64 cap0, .slice A0 n0 c0] #[.bool false, .int .u64 cap0, .slice A0 n0 c0] #[.int .i64 40, .int .u64 3]) := by show B3 _ _ _ _ _ _; rw [← hX]; exact HH.out.set7 _ _
  rw [hX]
  clear hX
  refine hK.out _ _ ?_ (fun hHeld => ?_)
  ·exact HH.out.h3.rng
  clear hK K
  try simp only [Act.put, pS]
  refine wpAnyH_done (by kernel_rfl) ?_ _
  try simp only [Act.put, pS]
  have HQ3 := Lib.hid (RQo.of w.heap.size (HQ.out.below HH.out.hb hB))
  go_wp2_with ((with_reducible show bodyPost _ _ _ _ _ _); refine bodyPost_ret (results_cc rfl _ V9 (w.heap.size + 1) (w.heap.size + 2) 35 47 #[.bool false, .int .u64 cap0, .slice A0 n0 c0] #[.int .i64 40, .int .u64 3] _ _ (by rfl) HH.out.h6 Tryz.underlying35 rfl (by kernel_rfl) (by rfl) HH.out.h7 Tryz.underlying47 rfl (by kernel_rfl)) rfl ?_; exact ⟨_, _, rfl, HQ3.out, ⟨_, _, rfl⟩, HH.out.hb⟩)
 ·obtain ⟨rfl⟩ : is = true := HIs.out
  obtain ⟨A9, n9, c9, e9, hs9, hr9⟩ := HQ.out
  simp only [Array.mk.injEq, List.cons.injEq, Value.int.injEq, Value.slice.injEq, and_true, true_and] at e9
  obtain ⟨rfl, rfl, rfl, rfl⟩ := e9
  have HR := Lib.hid (hr9.more hB)
  have HRB := Lib.hid hr9
  have HS9 := Lib.hid hs9
  have HLl := Lib.hid hr9.u64Len
  clear hr9
  by_cases hn : 0 < n0
  ·have hn1 : ((n0 : Int) == 0) = false := by simp; omega
   have hn2 : (0 : Int) < n0 := by omega
   obtain ⟨b9, o9, rfl, hb9, hc9⟩ := HR.out.at_ hn
   obtain ⟨x9, l9, rfl⟩ := list_pos (l := l) (by have := HLl.out; omega)
   have hcl0 := hc9 0 _ rfl
   rw [Nat.add_zero] at hcl0
   go_upto_region 24 with fail
   clear k0 k1 k2
   obtain ⟨V, hV⟩ : ∃ V, W1.drew = V := ⟨_, rfl⟩
   refine wp_region_held_drew (S := (fun w' => w'.rangeAt w.heap.size 0 (#[.bool true, .int .u64 cap0, .slice (some ⟨b9, o9, none⟩) n0 c0] : Array Value).toList ∧ w'.cell? ⟨w.heap.size, 2, none⟩ = some (.slice (some ⟨b9, o9, none⟩) n0 c0) ∧ w'.cell? ⟨w.heap.size, 1, none⟩ = some (.int .u64 cap0) ∧ w'.cell? ⟨b9, o9, none⟩ = some (.int .u64 x9))) (by kernel_rfl) ?_ (fun hHeld => ?_)
   ·exact ⟨HH.out.h3.rng, HH.out.h3.cell 2, HH.out.h3.cell 1, (HH.out.hb.cell (p := ⟨b9, o9, none⟩) hb9).trans hcl0⟩
   refine loadA 0 #[.bool true, .int .u64 cap0, .slice (some ⟨b9, o9, none⟩) n0 c0] Tryz.underlying35 rfl (by kernel_rfl) ?_ ?_
   ·(intro w hSw; exact hSw.1)
   try simp only [Act.put, pS]
   refine takeA 1 ?_
   try simp only [Act.put, pS]
   refine takeA 2 ?_
   try simp only [Act.put, pS]
   refine takeA 3 ?_
   try simp only [Act.put, pS]
   refine takeA 4 ?_
   try simp only [Act.put, pS]
   refine takeA 5 ?_
   try simp only [Act.put, pS]
   have HH : Hid (B3 w V 35 #[.bool true, .int .u64 cap0, .slice (some ⟨b9, o9, none⟩) n0 c0] #[.bool false, .int .u64 0, .slice none 0 0] #[.int .i64 0, .int .u64 0]) := by show B3 _ _ _ _ _ _; rw [← hV]; exact HH.out.drew
   rw [hV] at hHeld ⊢
   clear hV
   refine comeA 6 fun K hK => ?_
   have qc := c3 HH.out.h6; have e0 := qc.1; have e1 := qc.2.1; have e2 := qc.2.2.1; have f0 := qc.2.2.2.1; have f1 := qc.2.2.2.2.1; have f2 := qc.2.2.2.2.2.1; have kf := qc.2.2.2.2.2.2; clear qc
   go_simp
   clear e0 f0 e1 f1 e2 f2 kf
   obtain ⟨V8, hX⟩ : ∃ X, (((V.setCell ⟨(w.heap.size + 1), 0, none⟩ (.bool true)).setCell ⟨(w.heap.size + 1), 1, none⟩ (.int .u64 cap0)).setCell ⟨(w.heap.size + 1), 2, none⟩ (.slice (some ⟨b9, o9, none⟩) n0 c0)) = X := ⟨_, rfl⟩
   have HH : Hid (B3 w V8 35 #[.bool true, .int .u64 cap0, .slice (some ⟨b9, o9, none⟩) n0 c0] #[.bool true, .int .u64 cap0, .slice (some ⟨b9, o9, none⟩) n0 c0] #[.int .i64 0, .int .u64 0]) := by show B3 _ _ _ _ _ _; rw [← hX]; exact HH.out.set6 _ _ _
   rw [hX]
   clear hX
   refine hK.out _ _ ?_ (fun hHeld => ?_)
   ·exact ⟨HH.out.h3.rng, HH.out.h3.cell 2, HH.out.h3.cell 1, (HH.out.hb.cell (p := ⟨b9, o9, none⟩) hb9).trans hcl0⟩
   clear hK K
   try simp only [Act.put, pS]
   refine comeA 7 fun K hK => ?_
   have qc := c2 HH.out.h7; have e0 := qc.1; have e1 := qc.2.1; have f0 := qc.2.2.1; have f1 := qc.2.2.2.1; have kf := qc.2.2.2.2; clear qc
   go_simp
   clear e0 f0 e1 f1 kf
   obtain ⟨V9, hX⟩ : ∃ X, ((V8.setCell ⟨(w.heap.size + 2), 0, none⟩ (.int .i64 0)).setCell ⟨(w.heap.size + 2), 1, none⟩ (.int .u64 x9)) = X := ⟨_, rfl⟩
   have HH : Hid (B3 w V9 35 #[.bool true, .int .u64 cap0, .slice (some ⟨b9, o9, none⟩) n0 c0] #[.bool true, .int .u64 cap0, .slice (some ⟨b9, o9, none⟩) n0 c0] #[.int .i64 0, .int .u64 x9]) := by show B3 _ _ _ _ _ _; rw [← hX]; exact HH.out.set7 _ _
   rw [hX]
   clear hX
   refine hK.out _ _ ?_ (fun hHeld => ?_)
   ·exact ⟨HH.out.h3.rng, HH.out.h3.cell 2, HH.out.h3.cell 1, (HH.out.hb.cell (p := ⟨b9, o9, none⟩) hb9).trans hcl0⟩
   clear hK K
   try simp only [Act.put, pS]
   refine wpAnyH_done (by kernel_rfl) ?_ _
   try simp only [Act.put, pS]
   go_wp2_with ((with_reducible show bodyPost _ _ _ _ _ _); refine bodyPost_ret (results_cc rfl _ V9 (w.heap.size + 1) (w.heap.size + 2) 35 47 #[.bool true, .int .u64 cap0, .slice (some ⟨b9, o9, none⟩) n0 c0] #[.int .i64 0, .int .u64 x9] _ _ (by rfl) HH.out.h6 Tryz.underlying35 rfl (by kernel_rfl) (by rfl) HH.out.h7 Tryz.underlying47 rfl (by kernel_rfl)) rfl ?_; exact ⟨_, _, rfl, RQo.of _ (HQ.out.below HH.out.hb hB), ⟨_, _, rfl⟩, HH.out.hb⟩)
  ·have hn1 : ((n0 : Int) == 0) = true := by simp; omega
   obtain ⟨rfl⟩ : l = [] := by have := HLl.out; exact List.eq_nil_of_length_eq_zero (by omega)
   go_upto_region 21 with fail
   clear k0 k1 k2
   obtain ⟨V, hV⟩ : ∃ V, W1.drew = V := ⟨_, rfl⟩
   refine wp_region_held_drew (S := (fun w' => w'.rangeAt w.heap.size 0 (#[.bool true, .int .u64 cap0, .slice A0 n0 c0] : Array Value).toList)) (by kernel_rfl) ?_ (fun hHeld => ?_)
   ·exact HH.out.h3.rng
   refine loadA 0 #[.bool true, .int .u64 cap0, .slice A0 n0 c0] Tryz.underlying35 rfl (by kernel_rfl) ?_ ?_
   ·(intro w hSw; exact hSw)
   try simp only [Act.put, pS]
   have HH : Hid (B3 w V 35 #[.bool true, .int .u64 cap0, .slice A0 n0 c0] #[.bool false, .int .u64 0, .slice none 0 0] #[.int .i64 0, .int .u64 0]) := by show B3 _ _ _ _ _ _; rw [← hV]; exact HH.out.drew
   rw [hV] at hHeld ⊢
   clear hV
   refine comeA 1 fun K hK => ?_
   go_simp
   refine (rgives20 1 _).mono ?_
   rintro e V1 ⟨rfl, hb⟩
   have HH := Lib.hid (HH.out.below hb)
   clear hb
   go_simp
   refine hK.out _ _ ?_ (fun hHeld => ?_)
   ·exact HH.out.h3.rng
   clear hK K
   try simp only [Act.put, pS]
   refine comeA 2 fun K hK => ?_
   have qc := c3 HH.out.h6; have e0 := qc.1; have e1 := qc.2.1; have e2 := qc.2.2.1; have f0 := qc.2.2.2.1; have f1 := qc.2.2.2.2.1; have f2 := qc.2.2.2.2.2.1; have kf := qc.2.2.2.2.2.2; clear qc
   go_simp
   clear e0 f0 e1 f1 e2 f2 kf
   obtain ⟨V8, hX⟩ : ∃ X, (((V1.setCell ⟨(w.heap.size + 1), 0, none⟩ (.bool true)).setCell ⟨(w.heap.size + 1), 1, none⟩ (.int .u64 cap0)).setCell ⟨(w.heap.size + 1), 2, none⟩ (.slice A0 n0 c0)) = X := ⟨_, rfl⟩
   have HH : Hid (B3 w V8 35 #[.bool true, .int .u64 cap0, .slice A0 n0 c0] #[.bool true, .int .u64 cap0, .slice A0 n0 c0] #[.int .i64 0, .int .u64 0]) := by show B3 _ _ _ _ _ _; rw [← hX]; exact HH.out.set6 _ _ _
   rw [hX]
   clear hX
   refine hK.out _ _ ?_ (fun hHeld => ?_)
   ·exact HH.out.h3.rng
   clear hK K
   try simp only [Act.put, pS]
   refine comeA 3 fun K hK => ?_
   have qc := c2 HH.out.h7; have e0 := qc.1; have e1 := qc.2.1; have f0 := qc.2.2.1; have f1 := qc.2.2.2.1; have kf := qc.2.2.2.2; clear qc
   go_simp
   clear e0 f0 e1 f1 kf
   obtain ⟨V9, hX⟩ : ∃ X, ((V8.setCell ⟨(w.heap.size + 2), 0, none⟩ (.int .i64 40)).setCell ⟨(w.heap.size + 2), 1, none⟩ (.int .u64 1)) = X := ⟨_, rfl⟩
   have HH : Hid (B3 w V9 35 #[.bool true, .int .u64 cap0, .slice A0 n0 c0] #[.bool true, .int .u64 cap0, .slice A0 n0 c0] #[.int .i64 40, .int .u64 1]) := by show B3 _ _ _ _ _ _; rw [← hX]; exact HH.out.set7 _ _
   rw [hX]
   clear hX
   refine hK.out _ _ ?_ (fun hHeld => ?_)
   ·exact HH.out.h3.rng
   clear hK K
   try simp only [Act.put, pS]
   refine wpAnyH_done (by kernel_rfl) ?_ _
   try simp only [Act.put, pS]
   have HQ3 := Lib.hid (RQo.of w.heap.size (HQ.out.below HH.out.hb hB))
   go_wp2_with ((with_reducible show bodyPost _ _ _ _ _ _); refine bodyPost_ret (results_cc rfl _ V9 (w.heap.size + 1) (w.heap.size + 2) 35 47 #[.bool true, .int .u64 cap0, .slice A0 n0 c0] #[.int .i64 40, .int .u64 1] _ _ (by rfl) HH.out.h6 Tryz.underlying35 rfl (by kernel_rfl) (by rfl) HH.out.h7 Tryz.underlying47 rfl (by kernel_rfl)) rfl ?_; exact ⟨_, _, rfl, HQ3.out, ⟨_, _, rfl⟩, HH.out.hb⟩)
set_option maxRecDepth 100000 in
set_option maxHeartbeats 8000000 in
theorem rq_take (o : QO) (vs : Array Value) (a : Int) (L B : Nat) (w : World) (hq : RQ L B w vs o) (hL : L ≤ w.heap.size) (hB : B ≤ w.heap.size) (hok : QOk 100 o) (ha : U64' a) :
 Calls Tryz.prog 24 #[.agg vs, .string ⟨#[116, 97, 107, 101]⟩, .int .u64 a] w (DoesRQ L B w (qP 2 a o)) := by
 obtain ⟨is, cap0, A0, n0, c0, hvs, his, hn0⟩ := hq.cells (by rintro cap l rfl; exact hok.2.2)
 subst hvs
 have HQ := Lib.hid hq
 have HIs := Lib.hid his
 obtain ⟨W1, hW1⟩ : ∃ W1, ((w.alloc (.cells #[.bool is, .int .u64 cap0, .slice A0 n0 c0] 35)).alloc (.cells #[.bool false, .int .u64 0, .slice none 0 0] 35)).alloc (.cells #[.int .i64 0, .int .u64 0] 47) = W1 := ⟨_, rfl⟩
 have htb := b3_new w #[.bool is, .int .u64 cap0, .slice A0 n0 c0] #[.bool false, .int .u64 0, .slice none 0 0] #[.int .i64 0, .int .u64 0] 35
 simp only [hW1] at htb
 have HH := Lib.hid htb
 have HW1 := Lib.hid hW1
 clear htb hW1 hq his
 go_enter Tryz.func24, Tryz.ntmps24
 go_upto_region 1 with fail
 rw [HW1.out]
 clear HW1
 have k0 := (c3 HH.out.h3).1
 have k1 := (c3 HH.out.h3).2.1
 have k2 := (c3 HH.out.h3).2.2.1
 have hwr : IntKind.u64.wrap (n0 : Int) = n0 := by rw [IntKind.wrap_u64]; omega
 rcases o with _ | ⟨cap, l⟩
 ·obtain ⟨rfl⟩ : is = false := HIs.out
  go_upto_region 9 with fail
  clear k0 k1 k2
  obtain ⟨V, hV⟩ : ∃ V, W1.drew = V := ⟨_, rfl⟩
  refine wp_region_held_drew (S := (fun w' => w'.rangeAt w.heap.size 0 (#[.bool false, .int .u64 cap0, .slice A0 n0 c0] : Array Value).toList)) (by kernel_rfl) ?_ (fun hHeld => ?_)
  ·exact HH.out.h3.rng
  refine loadA 0 #[.bool false, .int .u64 cap0, .slice A0 n0 c0] Tryz.underlying35 rfl (by kernel_rfl) ?_ ?_
  ·(intro w hSw; exact hSw)
  try simp only [Act.put, pS]
  have HH : Hid (B3 w V 35 #[.bool false, .int .u64 cap0, .slice A0 n0 c0] #[.bool false, .int .u64 0, .slice none 0 0] #[.int .i64 0, .int .u64 0]) := by show B3 _ _ _ _ _ _; rw [← hV]; exact HH.out.drew
  rw [hV] at hHeld ⊢
  clear hV
  refine comeA 1 fun K hK => ?_
  go_simp
  refine (rgives20 3 _).mono ?_
  rintro e V1 ⟨rfl, hb⟩
  have HH := Lib.hid (HH.out.below hb)
  clear hb
  go_simp
  refine hK.out _ _ ?_ (fun hHeld => ?_)
  ·exact HH.out.h3.rng
  clear hK K
  try simp only [Act.put, pS]
  refine comeA 2 fun K hK => ?_
  have qc := c3 HH.out.h6; have e0 := qc.1; have e1 := qc.2.1; have e2 := qc.2.2.1; have f0 := qc.2.2.2.1; have f1 := qc.2.2.2.2.1; have f2 := qc.2.2.2.2.2.1; have kf := qc.2.2.2.2.2.2; clear qc
  go_simp
  clear e0 f0 e1 f1 e2 f2 kf
  obtain ⟨V8, hX⟩ : ∃ X, (((V1.setCell ⟨(w.heap.size + 1), 0, none⟩ (.bool false)).setCell ⟨(w.heap.size + 1), 1, none⟩ (.int .u64 cap0)).setCell ⟨(w.heap.size + 1), 2, none⟩ (.slice A0 n0 c0)) = X := ⟨_, rfl⟩
  have HH : Hid (B3 w V8 35 #[.bool false, .int .u64 cap0, .slice A0 n0 c0] #[.bool false, .int .u64 cap0, .slice A0 n0 c0] #[.int .i64 0, .int .u64 0]) := by show B3 _ _ _ _ _ _; rw [← hX]; exact HH.out.set6 _ _ _
  rw [hX]
  clear hX
  refine hK.out _ _ ?_ (fun hHeld => ?_)
  ·exact HH.out.h3.rng
  clear hK K
  try simp only [Act.put, pS]
  refine comeA 3 fun K hK => ?_
  have qc := c2 HH.out.h7; have e0 := qc.1; have e1 := qc.2.1; have f0 := qc.2.2.1; have f1 := qc.2.2.2.1; have kf := qc.2.2.2.2; clear qc
  go_simp
  clear e0 f0 e1 f1 kf
  obtain ⟨V9, hX⟩ : ∃ X, ((V8.setCell ⟨(w.heap.size + 2), 0, none⟩ (.int .i64 40)).setCell ⟨(w.heap.size + 2), 1, none⟩ (.int .u64 3)) = X := ⟨_, rfl⟩
  have HH : Hid (B3 w V9 35 #[.bool false, .int .u64 cap0, .slice A0 n0 c0] #[.bool false, .int .u64 cap0, .slice A0 n0 c0] #[.int .i64 40, .int .u64 3]) := by show B3 _ _ _ _ _ _; rw [← hX]; exact HH.out.set7 _ _
  rw [hX]
  clear hX
  refine hK.out _ _ ?_ (fun hHeld => ?_)
  ·exact HH.out.h3.rng
  clear hK K
  try simp only [Act.put, pS]
  refine wpAnyH_done (by kernel_rfl) ?_ _
  try simp only [Act.put, pS]
  have HQ3 := Lib.hid (RQo.of w.heap.size (HQ.out.below HH.out.hb hB))
  go_wp2_with ((with_reducible show bodyPost _ _ _ _ _ _); refine bodyPost_ret (results_cc rfl _ V9 (w.heap.size + 1) (w.heap.size + 2) 35 47 #[.bool false, .int .u64 cap0, .slice A0 n0 c0] #[.int .i64 40, .int .u64 3] _ _ (by rfl) HH.out.h6 Tryz.underlying35 rfl (by kernel_rfl) (by rfl) HH.out.h7 Tryz.underlying47 rfl (by kernel_rfl)) rfl ?_; exact ⟨_, _, rfl, HQ3.out, ⟨_, _, rfl⟩, HH.out.hb⟩)
 ·obtain ⟨rfl⟩ : is = true := HIs.out
  obtain ⟨A9, n9, c9, e9, hs9, hr9⟩ := HQ.out
  simp only [Array.mk.injEq, List.cons.injEq, Value.int.injEq, Value.slice.injEq, and_true, true_and] at e9
  obtain ⟨rfl, rfl, rfl, rfl⟩ := e9
  have HR := Lib.hid (hr9.more hB)
  have HRB := Lib.hid hr9
  have HS9 := Lib.hid hs9
  have HLl := Lib.hid hr9.u64Len
  clear hr9
  by_cases hn : 0 < n0
  ·have hn1 : ((n0 : Int) == 0) = false := by simp; omega
   have hn2 : (0 : Int) < n0 := by omega
   obtain ⟨b9, o9, rfl, hb9, hc9⟩ := HR.out.at_ hn
   obtain ⟨x9, l9, rfl⟩ := list_pos (l := l) (by have := HLl.out; omega)
   have hcl0 := hc9 0 _ rfl
   rw [Nat.add_zero] at hcl0
   obtain ⟨A8, hsl8, hrd8, hne8, hat8⟩ := cut_1L 33 elem_u64 size_u64 HRB.out HS9.out.1.1 hn
   have HR8 := Lib.hid hrd8
   clear hrd8
   go_upto_region 23 with fail
   clear k0 k1 k2
   obtain ⟨V, hV⟩ : ∃ V, W1.drew = V := ⟨_, rfl⟩
   refine wp_region_held_drew (S := (fun w' => w'.rangeAt w.heap.size 0 (#[.bool true, .int .u64 cap0, .slice (some ⟨b9, o9, none⟩) n0 c0] : Array Value).toList ∧ w'.cell? ⟨w.heap.size, 2, none⟩ = some (.slice (some ⟨b9, o9, none⟩) n0 c0) ∧ w'.cell? ⟨w.heap.size, 1, none⟩ = some (.int .u64 cap0) ∧ w'.cell? ⟨b9, o9, none⟩ = some (.int .u64 x9))) (by kernel_rfl) ?_ (fun hHeld => ?_)
   ·exact ⟨HH.out.h3.rng, HH.out.h3.cell 2, HH.out.h3.cell 1, (HH.out.hb.cell (p := ⟨b9, o9, none⟩) hb9).trans hcl0⟩
   refine takeA 0 ?_
   try simp only [Act.put, pS]
   refine takeA 1 ?_
   try simp only [Act.put, pS]
   refine takeA 2 ?_
   try simp only [Act.put, pS]
   refine takeA 3 ?_
   try simp only [Act.put, pS]
   refine takeA 4 ?_
   try simp only [Act.put, pS]
   refine takeA 5 ?_
   try simp only [Act.put, pS]
   refine takeA 6 ?_
   try simp only [Act.put, pS]
   refine takeA 7 ?_
   try simp only [Act.put, pS]
   refine takeA 8 ?_
   try simp only [Act.put, pS]
   refine takeA 9 ?_
   try simp only [Act.put, pS]
   refine takeA 10 ?_
   try simp only [Act.put, pS]
   have HH : Hid (B3 w V 35 #[.bool true, .int .u64 cap0, .slice (some ⟨b9, o9, none⟩) n0 c0] #[.bool false, .int .u64 0, .slice none 0 0] #[.int .i64 0, .int .u64 0]) := by show B3 _ _ _ _ _ _; rw [← hV]; exact HH.out.drew
   rw [hV] at hHeld ⊢
   clear hV
   refine comeA 11 fun K hK => ?_
   have qc := c3 HH.out.h6; have e0 := qc.1; have e1 := qc.2.1; have e2 := qc.2.2.1; have f0 := qc.2.2.2.1; have f1 := qc.2.2.2.2.1; have f2 := qc.2.2.2.2.2.1; have kf := qc.2.2.2.2.2.2; clear qc
   go_simp
   clear e0 f0 e1 f1 e2 f2 kf
   obtain ⟨V8, hX⟩ : ∃ X, (((V.setCell ⟨(w.heap.size + 1), 0, none⟩ (.bool true)).setCell ⟨(w.heap.size + 1), 1, none⟩ (.int .u64 cap0)).setCell ⟨(w.heap.size + 1), 2, none⟩ (.slice A8 (n0 - 1) (c0 - 1))) = X := ⟨_, rfl⟩
   have HH : Hid (B3 w V8 35 #[.bool true, .int .u64 cap0, .slice (some ⟨b9, o9, none⟩) n0 c0] #[.bool true, .int .u64 cap0, .slice A8 (n0 - 1) (c0 - 1)] #[.int .i64 0, .int .u64 0]) := by show B3 _ _ _ _ _ _; rw [← hX]; exact HH.out.set6 _ _ _
   rw [hX]
   clear hX
   refine hK.out _ _ ?_ (fun hHeld => ?_)
   ·exact ⟨HH.out.h3.rng, HH.out.h3.cell 2, HH.out.h3.cell 1, (HH.out.hb.cell (p := ⟨b9, o9, none⟩) hb9).trans hcl0⟩
   clear hK K
   try simp only [Act.put, pS]
   refine comeA 12 fun K hK => ?_
   have qc := c2 HH.out.h7; have e0 := qc.1; have e1 := qc.2.1; have f0 := qc.2.2.1; have f1 := qc.2.2.2.1; have kf := qc.2.2.2.2; clear qc
   go_simp
   clear e0 f0 e1 f1 kf
   obtain ⟨V9, hX⟩ : ∃ X, ((V8.setCell ⟨(w.heap.size + 2), 0, none⟩ (.int .i64 0)).setCell ⟨(w.heap.size + 2), 1, none⟩ (.int .u64 x9)) = X := ⟨_, rfl⟩
   have HH : Hid (B3 w V9 35 #[.bool true, .int .u64 cap0, .slice (some ⟨b9, o9, none⟩) n0 c0] #[.bool true, .int .u64 cap0, .slice A8 (n0 - 1) (c0 - 1)] #[.int .i64 0, .int .u64 x9]) := by show B3 _ _ _ _ _ _; rw [← hX]; exact HH.out.set7 _ _
   rw [hX]
   clear hX
   refine hK.out _ _ ?_ (fun hHeld => ?_)
   ·exact ⟨HH.out.h3.rng, HH.out.h3.cell 2, HH.out.h3.cell 1, (HH.out.hb.cell (p := ⟨b9, o9, none⟩) hb9).trans hcl0⟩
   clear hK K
   try simp only [Act.put, pS]
   refine wpAnyH_done (by kernel_rfl) ?_ _
   try simp only [Act.put, pS]
   go_wp2_with ((with_reducible show bodyPost _ _ _ _ _ _); refine bodyPost_ret (results_cc rfl _ V9 (w.heap.size + 1) (w.heap.size + 2) 35 47 #[.bool true, .int .u64 cap0, .slice A8 (n0 - 1) (c0 - 1)] #[.int .i64 0, .int .u64 x9] _ _ (by rfl) HH.out.h6 Tryz.underlying35 rfl (by kernel_rfl) (by rfl) HH.out.h7 Tryz.underlying47 rfl (by kernel_rfl)) rfl ?_; exact ⟨_, _, rfl, ⟨A8, n0 - 1, c0 - 1, rfl, ⟨⟨Nat.sub_le_sub_right HS9.out.1.1 1, fun e => absurd e hne8⟩, hat8 _ HS9.out.2⟩, .inl (HR8.out.below (HH.out.hb.mono hB))⟩, ⟨_, _, rfl⟩, HH.out.hb⟩)
  ·have hn1 : ((n0 : Int) == 0) = true := by simp; omega
   obtain ⟨rfl⟩ : l = [] := by have := HLl.out; exact List.eq_nil_of_length_eq_zero (by omega)
   go_upto_region 21 with fail
   clear k0 k1 k2
   obtain ⟨V, hV⟩ : ∃ V, W1.drew = V := ⟨_, rfl⟩
   refine wp_region_held_drew (S := (fun w' => w'.rangeAt w.heap.size 0 (#[.bool true, .int .u64 cap0, .slice A0 n0 c0] : Array Value).toList)) (by kernel_rfl) ?_ (fun hHeld => ?_)
   ·exact HH.out.h3.rng
   refine loadA 0 #[.bool true, .int .u64 cap0, .slice A0 n0 c0] Tryz.underlying35 rfl (by kernel_rfl) ?_ ?_
   ·(intro w hSw; exact hSw)
   try simp only [Act.put, pS]
   have HH : Hid (B3 w V 35 #[.bool true, .int .u64 cap0, .slice A0 n0 c0] #[.bool false, .int .u64 0, .slice none 0 0] #[.int .i64 0, .int .u64 0]) := by show B3 _ _ _ _ _ _; rw [← hV]; exact HH.out.drew
   rw [hV] at hHeld ⊢
   clear hV
   refine comeA 1 fun K hK => ?_
   go_simp
   refine (rgives20 1 _).mono ?_
   rintro e V1 ⟨rfl, hb⟩
   have HH := Lib.hid (HH.out.below hb)
   clear hb
   go_simp
   refine hK.out _ _ ?_ (fun hHeld => ?_)
   ·exact HH.out.h3.rng
   clear hK K
   try simp only [Act.put, pS]
   refine comeA 2 fun K hK => ?_
   have qc := c3 HH.out.h6; have e0 := qc.1; have e1 := qc.2.1; have e2 := qc.2.2.1; have f0 := qc.2.2.2.1; have f1 := qc.2.2.2.2.1; have f2 := qc.2.2.2.2.2.1; have kf := qc.2.2.2.2.2.2; clear qc
   go_simp
   clear e0 f0 e1 f1 e2 f2 kf
   obtain ⟨V8, hX⟩ : ∃ X, (((V1.setCell ⟨(w.heap.size + 1), 0, none⟩ (.bool true)).setCell ⟨(w.heap.size + 1), 1, none⟩ (.int .u64 cap0)).setCell ⟨(w.heap.size + 1), 2, none⟩ (.slice A0 n0 c0)) = X := ⟨_, rfl⟩
   have HH : Hid (B3 w V8 35 #[.bool true, .int .u64 cap0, .slice A0 n0 c0] #[.bool true, .int .u64 cap0, .slice A0 n0 c0] #[.int .i64 0, .int .u64 0]) := by show B3 _ _ _ _ _ _; rw [← hX]; exact HH.out.set6 _ _ _
   rw [hX]
   clear hX
   refine hK.out _ _ ?_ (fun hHeld => ?_)
   ·exact HH.out.h3.rng
   clear hK K
   try simp only [Act.put, pS]
   refine comeA 3 fun K hK => ?_
   have qc := c2 HH.out.h7; have e0 := qc.1; have e1 := qc.2.1; have f0 := qc.2.2.1; have f1 := qc.2.2.2.1; have kf := qc.2.2.2.2; clear qc
   go_simp
   clear e0 f0 e1 f1 kf
   obtain ⟨V9, hX⟩ : ∃ X, ((V8.setCell ⟨(w.heap.size + 2), 0, none⟩ (.int .i64 40)).setCell ⟨(w.heap.size + 2), 1, none⟩ (.int .u64 1)) = X := ⟨_, rfl⟩
   have HH : Hid (B3 w V9 35 #[.bool true, .int .u64 cap0, .slice A0 n0 c0] #[.bool true, .int .u64 cap0, .slice A0 n0 c0] #[.int .i64 40, .int .u64 1]) := by show B3 _ _ _ _ _ _; rw [← hX]; exact HH.out.set7 _ _
   rw [hX]
   clear hX
   refine hK.out _ _ ?_ (fun hHeld => ?_)
   ·exact HH.out.h3.rng
   clear hK K
   try simp only [Act.put, pS]
   refine wpAnyH_done (by kernel_rfl) ?_ _
   try simp only [Act.put, pS]
   have HQ3 := Lib.hid (RQo.of w.heap.size (HQ.out.below HH.out.hb hB))
   go_wp2_with ((with_reducible show bodyPost _ _ _ _ _ _); refine bodyPost_ret (results_cc rfl _ V9 (w.heap.size + 1) (w.heap.size + 2) 35 47 #[.bool true, .int .u64 cap0, .slice A0 n0 c0] #[.int .i64 40, .int .u64 1] _ _ (by rfl) HH.out.h6 Tryz.underlying35 rfl (by kernel_rfl) (by rfl) HH.out.h7 Tryz.underlying47 rfl (by kernel_rfl)) rfl ?_; exact ⟨_, _, rfl, HQ3.out, ⟨_, _, rfl⟩, HH.out.hb⟩)
end Go.Proofs.YtiiaingepbkikaaGreatDoor
