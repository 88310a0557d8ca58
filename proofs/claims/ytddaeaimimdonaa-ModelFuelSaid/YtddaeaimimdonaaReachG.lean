/-
  Chapter 5: contract of tumblerref05.Longest.
-/
import Derived.Test.YtddaeaimimdonaaReachE
import Derived.Deep.QuietTactic
import Derived.BigQuiet
namespace Go.Proofs.Ytddaeaimimdonaa
open Go.RowKit
set_option linter.unusedVariables false

theorem make_ints (w : World) (n : Nat) (hn : n ≤ 256) : (Instr.makeSlice 101 (.int .i64 n) (.int .i64 n)).run Try.prog w = .ok (.slice (some ⟨w.heap.size, 0, none⟩) n n) (w.alloc (.cells (ints (List.replicate n 0)).toArray 3)) := by
  obtain ⟨i0, hi0, hz0, hz1, hz2⟩ := info_parts info_int
  have h := run_make (P := Try.prog) w 101 3 i0 _ Try.underlying101 hi0 hz0 .i64 .i64 n n (by omega) (Int.le_refl _) (by rw [hz2]; omega) (by omega)
  rw [hz1, Nat.mul_one, Int.toNat_natCast, made_ints] at h
  exact h

theorem Bk.drewN {w : World} {g : Nat} {t : TypeId} {cs : Array Value} (h : Bk w g t cs) (a : Nat) : Bk (w.drewN a) g t cs := h

theorem rd_bool {w : World} {B n b o : Nat} {M : List Bool} (h : Rd w B 1 (some ⟨b, o, none⟩) n (bools M)) {k : Nat} (hk : k < n) : w.cell? ⟨b, o + k, none⟩ = some (.bool (M.getD k false)) := by
  obtain ⟨b', o', e, _, hc⟩ := h.at_ (by omega)
  injection e with e
  injection e with e1 e2
  subst e1; subst e2
  have hl : M.length = n := by simpa [bools] using h.len
  exact hc k _ (bools_at (by omega))

/-- What Longest comes to. -/
def LongestPost (l : List Ins) (w : World) (e : Ending) (w' : World) : Prop :=
  ∃ x b, e = .returned (.tuple #[.int .i64 x, .bool b]) ∧ Below w.heap.size w w' ∧ LongestIs l x b

/-- Within the inner loop: place k has the most of its next places below j. -/
structure Within (l : List Ins) (vs : List Int) (k j : Nat) (i : Ins) : Prop where
  down : Down l vs (k + 1)
  most : IsMost vs k (fun q => q < j ∧ (q : Int) ∈ nextP i k) (vs.getD k 0)
theorem Down.set_ {l : List Ins} {vs : List Int} {k : Nat} (h : Down l vs (k + 1)) (m : Int) : Down l (vs.set k m) (k + 1) := ⟨h.most.set_ m, h.noback⟩
theorem Within.init {l : List Ins} {vs : List Int} {k : Nat} {i : Ins} (h : Down l vs (k + 1)) (hk : k < l.length) : Within l (vs.set k 1) k (k + 1) i := by
  refine ⟨h.set_ 1, ?_⟩
  rw [getD_set_eq (by rw [h.most.len]; exact hk)]
  exact IsMost.init _ _ fun j hj hS => by omega
theorem Within.more {l : List Ins} {vs : List Int} {k j : Nat} {i : Ins} (h : Within l vs k j i) (hk : k < l.length) (hj : k < j) (hz : (j : Int) ∈ nextP i k) (hgt : vs.getD k 0 < vs.getD j 0 + 1) : Within l (vs.set k (vs.getD j 0 + 1)) k (j + 1) i := by
  refine ⟨h.down.set_ _, ?_⟩
  rw [getD_set_eq (by rw [h.down.most.len]; exact hk)]
  have hm := h.most.more (q := j) (S' := fun q => q < j + 1 ∧ (q : Int) ∈ nextP i k) hj fun q hq => by
    constructor
    · rintro ⟨h1, h2⟩
      by_cases e : q = j
      · exact .inr e
      · exact .inl ⟨by omega, h2⟩
    · rintro (⟨h1, h2⟩ | rfl)
      · exact ⟨by omega, h2⟩
      · exact ⟨by omega, hz⟩
  rw [show max (vs.getD k 0) (vs.getD j 0 + 1) = vs.getD j 0 + 1 by omega] at hm
  exact hm.congr (fun q hq => getD_set_ne (by omega)) fun q _ => Iff.rfl
theorem Within.skip {l : List Ins} {vs : List Int} {k j : Nat} {i : Ins} (h : Within l vs k j i) (hn : ¬ ((j : Int) ∈ nextP i k) ∨ vs.getD j 0 + 1 ≤ vs.getD k 0) : Within l vs k (j + 1) i := by
  refine ⟨h.down, h.most.one, fun q hq hS => ?_, ?_⟩
  · by_cases e : q = j
    · subst e
      rcases hn with hn | hn
      · exact absurd hS.2 hn
      · exact hn
    · exact h.most.ge q hq ⟨by have := hS.1; omega, hS.2⟩
  · rcases h.most.is with e | ⟨q, hq, hS, e⟩
    · exact .inl e
    · exact .inr ⟨q, hq, ⟨by have := hS.1; omega, hS.2⟩, e⟩
theorem Within.done {l : List Ins} {vs : List Int} {k : Nat} {i : Ins} (h : Within l vs k l.length i) (hb : ∀ j : Nat, (j : Int) ∈ nextP i k → j < l.length) (hi : l[k]? = some i) (hnb : Reaches l k → i.op ≠ 19) : Down l vs k := by
  refine ⟨h.down.most.down hi (h.most.congr (fun _ _ => rfl) fun q _ => ⟨fun hq => ⟨hb q hq, hq⟩, fun hq => hq.2⟩), fun q i' hq hr hi' => ?_⟩
  by_cases e : q = k
  · subst e
    rw [hi] at hi'
    obtain rfl : i = i' := by simpa using hi'
    exact hnb hr
  · exact h.down.noback q i' (by omega) hr hi'
theorem Within.bound {l : List Ins} {vs : List Int} {k j : Nat} {i : Ins} (h : Within l vs k j i) (hb : ∀ (q j : Nat) (i : Ins), l[q]? = some i → (j : Int) ∈ nextP i q → j < l.length) {q : Nat} (hq : k < q) (hl : q < l.length) : 1 ≤ vs.getD q 0 ∧ vs.getD q 0 ≤ l.length - q :=
  h.down.most.bound hb l.length q (by omega) (by omega) hl

end Go.Proofs.Ytddaeaimimdonaa
