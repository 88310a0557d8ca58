/-
  Chapter 2: a loop over an iterator whose contract tells the body what each element is in the world of its round; the body goes on or returns.
-/
import Derived.Test.YthfienjmajllpaaDoorGlyM
namespace Go.Proofs.YthfienjmajllpaaDoor
open Go.RowKit
set_option linter.unusedVariables false

section
variable {F : Fence} {n : Nat} {P : Program}
/-- What a loop keeps books in: the rounds' deferred calls at D (none), its record behind them. -/
def Booked (D : Nat) (r : Loop) (W : World) : Prop := W.heap[D]? = some (.deferred (some [])) ∧ W.heap[D + 1]? = some (.loop r)
theorem Booked.lt {D : Nat} {r : Loop} {W : World} (h : Booked D r W) : D + 1 < W.heap.size := (Array.getElem?_eq_some_iff.1 h.2).1
theorem Booked.grown {D : Nat} {r : Loop} {W W' : World} {row : Option Nat} (h : Booked D r W) (hg : W.grownBy W' row) (hw : ∀ k, row = some k → ∃ o : Obj, W.heap[k]? = some o ∧ o.isWalk = true) : Booked D r W' :=
  ⟨(grownBy_keeps hg hw h.1 rfl).trans h.1, (grownBy_keeps hg hw h.2 rfl).trans h.2⟩
theorem Booked.others {D : Nat} {r : Loop} {W W' : World} (h : Booked D r W) (hk : KeepsOthers W W') : Booked D r W' := ⟨hk.same _ _ h.1 rfl, hk.same _ _ h.2 rfl⟩
theorem Booked.set {D : Nat} {r : Loop} {W : World} (h : Booked D r W) (r' : Loop) : Booked D r' (W.putObj (D + 1) (.loop r')) :=
  ⟨(World.putObj_heap_other (by omega)).trans h.1, World.putObj_heap_same h.lt⟩
theorem Booked.keeps {D n₀ : Nat} {r : Loop} {W : World} (h : Booked D r W) (hn : n₀ ≤ D) (o : Obj) : Below n₀ W (W.putObj (D + 1) o) :=
  (Below.refl n₀ W).grown (grownBy_putObj' W (D + 1) o) (by have := h.lt; omega) (fun k e => by cases e; omega)

/-- The contract of an iterator that tells T of each element at its yield. -/
def SeqTold {α : Type} (F : Fence) (n : Nat) (P : Program) (g : Nat) (lb : Array Value) (enc : α → Array Value) (n₀ : Nat) (T : List α × α → World → Prop) (S Sp : List α → Prop) (w : World) : Prop :=
  ∀ (lp : Nat) (J Jx : List α → World → Prop) (W : World), Below w.heap.size w W → AbidesFrom W.heap.size J → AbidesFrom W.heap.size Jx →
    (∀ pre x W1, J pre W1 → T (pre, x) W1 → YieldAt F (n - 1) P lp (enc x) W1 fun e W' => (e = .returned (.bool true) ∧ J (pre ++ [x]) W' ∧ Below n₀ W1 W') ∨ (e = .returned (.bool false) ∧ Jx (pre ++ [x]) W')) →
    J [] W → CallsIn F n P g (#[.func (.yield lp) #[] #[]] ++ lb) W fun e W' => (∃ v, e = .returned v) ∧ ((∃ xs, S xs ∧ J xs W') ∨ (∃ pre, Sp pre ∧ Jx pre W'))
/-- How the body may be left. -/
def postT {α : Type} (n₀ : Nat) (I Ix : List α → World → Prop) (xs : List α) (W : World) : Exit → Act → World → Prop
  | .normal, _, W' => (KeepsOthers W W' ∧ Below n₀ W W') ∧ I xs W'
  | .ret, _, W' => KeepsOthers W W' ∧ Ix xs W'
  | _, _, _ => False

theorem loop_told {α : Type} {g : Operand} {ps : Array Tmp} {assign body : Code} {Q : Exit → Act → World → Prop} {a : Act} {w : World}
    (hro : F.round = none) (h1 : 1 ≤ n) {gf : Nat} {lb : Array Value} (hg : a.eval g = .func (.func gf) #[] lb) (hFg : F.fn gf) (eg : ∀ args w, (callFunc gf args).run P w = .ok (.enter gf args) w)
    {enc : α → Array Value} (hps : ∀ x, (enc x).size = ps.size) {n₀ : Nat} (hn₀ : n₀ ≤ w.heap.size) {T : List α × α → World → Prop} (hT : OwnFrom w.heap.size T) {S Sp : List α → Prop}
    (hseq : SeqTold F (n - 1) P gf lb enc n₀ T S Sp w) (I Ix : List α → World → Prop) (hI : OwnFrom w.heap.size I) (hIx : OwnFrom w.heap.size Ix) (h0 : I [] w) (a₁ : α → Act)
    (hassign : ∀ (l : Nat) (x : α) (W : World) (K : Act → World → Prop), K (a₁ x) W → assign.wpIn (F.inRound l) (n - 1 - 1) P (Exit.then K (fun _ _ _ => False)) { tmps := (ps.zip (enc x)).foldl (fun t (p, v) => t.setIfInBounds p v) a.tmps, defers := [] } W)
    (hbody : ∀ (l : Nat) (pre : List α) (x : α) (W : World), I pre W → T (pre, x) W → body.wpIn (F.inRound l) (n - 1 - 1) P (postT n₀ I Ix (pre ++ [x]) W) (a₁ x) W)
    (hdone : ∀ (D : Nat) (xs : List α) (W : World), w.heap.size ≤ D → S xs → I xs W → W.heap[D]? = some (.deferred (some [])) → Q .normal { a with defers := { target := .collected D, args := #[] } :: a.defers } W)
    (hstop : ∀ (D : Nat) (pre : List α) (W : World), w.heap.size ≤ D → Sp pre → Ix pre W → W.heap[D]? = some (.deferred (some [])) → Code.ret.wpIn F n P Q { a with defers := { target := .collected D, args := #[] } :: a.defers } W) :
    (Code.rangeFunc g ps assign body).wpIn F n P Q a w := by
  refine wpIn_rangeFunc fun fn hfn => ?_
  rw [hro]
  obtain ⟨D, hD⟩ : ∃ D, w.heap.size = D := ⟨_, rfl⟩
  obtain ⟨R, hR⟩ : ∃ R : LoopState → Option Code → Loop, ∀ st pe, R st pe = { state := st, pending := pe, fn, tmps := a.tmps, params := ps, assign, body, defers := D } := ⟨_, fun _ _ => rfl⟩
  obtain ⟨V, hV⟩ : ∃ V, (w.alloc (.deferred (some []))).alloc (.loop (R .ready none)) = V := ⟨_, rfl⟩
  have hbk : Booked D (R .ready none) V := by
    rw [← hV, ← hD]
    refine ⟨(Below.heap_alloc _ _ _ (by simp)).trans (World.alloc_heap_new w _), ?_⟩
    have := World.alloc_heap_new (w.alloc (.deferred (some []))) (.loop (R .ready none))
    rwa [World.size_alloc] at this
  have hIV : I [] V := by rw [← hV]; exact hI.alloc _ (hI.alloc _ h0)
  have hwV : Below w.heap.size w V := by rw [← hV]; exact ((Below.refl _ w).alloc (Nat.le_refl _) _).alloc (by simp) _
  have hentry := run_enterLoop_outer (P := P) (w := w) fn a.tmps ps assign body
  rw [hD, ← hR, hV] at hentry
  refine ⟨D + 1, [{ target := .collected D, args := #[] }], V, { target := .fn (.func gf) lb, args := #[.func (.yield (D + 1)) #[] #[]] }, V, gf, #[.func (.yield (D + 1)) #[] #[]] ++ lb, V, hentry, ?_, ?_, ?_, fun _ => h1, ?_⟩
  · simp only [resolve, hg]; simp [go_sem]
  · intro f' hf'
    simp [Target.leads] at hf'
    subst hf'; exact hFg
  · simp [invoke, go_sem, eg]
  have hDV := hbk.lt
  -- what the iterator turns is no cells and lies behind the books
  have hrow : ∀ {A : World} {row : Option Nat}, (∀ r, row = some r → V.heap.size ≤ r ∧ ∃ o : Obj, A.heap[r]? = some o ∧ o.isWalk = true) → ∀ r, row = some r → w.heap.size ≤ r ∧ ∃ o : Obj, A.heap[r]? = some o ∧ o.isCells = false := by
    intro A row h r e
    obtain ⟨h2, o, h3, h4⟩ := h r e
    exact ⟨by omega, o, h3, Obj.not_cells_of_walk h4⟩
  refine (hseq (D + 1) (fun pre W => I pre W ∧ Booked D (R .ready none) W) (fun pre W => Ix pre W ∧ Booked D (R .done (some .ret)) W) V hwV
    (fun s A B row hs hg' hr => ⟨hI s A B row hs.1 hg' (hrow hr), hs.2.grown hg' fun r e => (hr r e).2⟩)
    (fun s A B row hs hg' hr => ⟨hIx s A B row hs.1 hg' (hrow hr), hs.2.grown hg' fun r e => (hr r e).2⟩) ?_ ⟨hIV, hbk⟩).mono ?_
  · -- a round
    rintro pre x W ⟨hi, hb⟩ ht
    have hy := run_yield (P := P) (args := enc x) hb.2 (by rw [hR]; exact hps x)
    rw [hR] at hy
    have hbeg := run_beginRound (P := P) hb.2 (by rw [hR])
    have hb2 := hb.set { R .ready none with state := .busy }
    refine ⟨fn, _, assign, body, hy, roundIn_of_wpIn hfn (hassign _ x W _ ⟨_, hbeg, ?_⟩)⟩
    have hkW := hb.keeps (n₀ := n₀) (by omega) (.loop { R .ready none with state := .busy })
    refine wpIn_mono (hbody _ pre x _ (hI.putObj _ hi (by omega) hb.2 rfl) (hT.putObj _ ht (by omega) hb.2 rfl)) ?_
    rintro e a3 X hp
    cases e with
    | normal =>
      obtain ⟨⟨hk, hbl⟩, hi3⟩ := hp
      have hb3 := hb2.others hk
      have hend := run_endRound (P := P) none hb3.2
      have hb4 := hb3.set { (({ R .ready none with state := .busy } : Loop)) with state := .ready, pending := none }
      refine ⟨_, _, hend, .inl ⟨rfl, ⟨hI.putObj _ hi3 (by omega) hb3.2 rfl, ?_⟩, (hkW.trans hbl).trans (hb3.keeps (n₀ := n₀) (by omega) _)⟩⟩
      rw [hR] at hb4 ⊢
      exact hb4
    | ret =>
      obtain ⟨hk, hi3⟩ := hp
      have hb3 := hb2.others hk
      have hend := run_endRound (P := P) (some .ret) hb3.2
      have hb4 := hb3.set (R .done (some .ret))
      refine ⟨_, _, hend, .inr ⟨rfl, hIx.putObj _ hi3 (by omega) hb3.2 rfl, ?_⟩⟩
      simp only [hR] at hb4 ⊢
      exact hb4
    | exit id => exact hp.elim
    | goto t => exact hp.elim
    | panic ch => exact hp.elim
    | outgrown => exact hp.elim
  · -- behind the iterator
    rintro e X ⟨⟨v, rfl⟩, ⟨xs, hS, hi, hb⟩ | ⟨pre, hSp, hi, hb⟩⟩
    · have hend := run_endLoop (P := P) hb.2 (by rw [hR]; simp)
      rw [hR] at hend
      exact ⟨none, _, hend, hdone D xs _ (by omega) hS (hI.putObj _ hi (by omega) hb.2 rfl) ((World.putObj_heap_other (by omega)).trans hb.1)⟩
    · have hend := run_endLoop (P := P) hb.2 (by rw [hR]; simp)
      rw [hR] at hend
      exact ⟨some .ret, _, hend, hstop D pre _ (by omega) hSp (hIx.putObj _ hi (by omega) hb.2 rfl) ((World.putObj_heap_other (by omega)).trans hb.1)⟩
end
end Go.Proofs.YthfienjmajllpaaDoor
