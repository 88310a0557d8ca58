/-
  Chapter 6, plain: the blocks that are put into a map, by their handles, rising.
-/
import Derived.Test.YtddaeaimimdonaaModU
import Derived.Test.YtddaeaimimdonaaModT
namespace Go.Proofs.Ytddaeaimimdonaa
open Go.RowKit Go.Maps
set_option linter.unusedVariables false

/-- What a map of these boxes holds. -/
def allF (l : List PBox) : Int → Option (List Int) := l.foldl (fun f b => upd f b.h (some b.words)) fun _ => none
theorem allF_snoc {l : List PBox} {k : Nat} {b : PBox} (h : l[k]? = some b) : allF (l.take (k + 1)) = upd (allF (l.take k)) b.h (some b.words) := by
  unfold allF
  rw [List.take_add_one, h, List.foldl_append]; rfl
/-- The boxes of the handles from 1 on, so many. -/
def bxs (f : Int → Option (List Int)) : Nat → List PBox
  | 0 => []
  | q + 1 => bxs f q ++ (match f ((q : Int) + 1) with | some ws => [⟨(q : Int) + 1, ws⟩] | none => [])
theorem bxs_some {f : Int → Option (List Int)} {q : Nat} {ws : List Int} (h : f ((q : Int) + 1) = some ws) : bxs f (q + 1) = bxs f q ++ [⟨(q : Int) + 1, ws⟩] := by rw [bxs, h]
theorem bxs_none {f : Int → Option (List Int)} {q : Nat} (h : f ((q : Int) + 1) = none) : bxs f (q + 1) = bxs f q := by rw [bxs, h]; simp
theorem bxs_len (f : Int → Option (List Int)) : ∀ q, (bxs f q).length ≤ q
  | 0 => Nat.le_refl _
  | q + 1 => by
    have := bxs_len f q
    cases h : f ((q : Int) + 1) with
    | none => rw [bxs_none h]; omega
    | some ws => rw [bxs_some h, List.length_append]; simp; omega
theorem bxs_mem (f : Int → Option (List Int)) : ∀ q b, b ∈ bxs f q ↔ (1 ≤ b.h ∧ b.h ≤ q ∧ f b.h = some b.words)
  | 0, b => by
    constructor
    · intro h; simp [bxs] at h
    · rintro ⟨h1, h2, _⟩; omega
  | q + 1, b => by
    cases h : f ((q : Int) + 1) with
    | none =>
      rw [bxs_none h, bxs_mem f q b]
      constructor
      · rintro ⟨h1, h2, h3⟩; exact ⟨h1, by omega, h3⟩
      · rintro ⟨h1, h2, h3⟩
        refine ⟨h1, ?_, h3⟩
        by_cases e : b.h = (q : Int) + 1
        · rw [e, h] at h3; cases h3
        · omega
    | some ws =>
      rw [bxs_some h, List.mem_append, bxs_mem f q b, List.mem_singleton]
      constructor
      · rintro (⟨h1, h2, h3⟩ | rfl)
        · exact ⟨h1, by omega, h3⟩
        · exact ⟨by simp only; omega, by simp only; omega, h⟩
      · rintro ⟨h1, h2, h3⟩
        by_cases e : b.h = (q : Int) + 1
        · right
          obtain ⟨bh, bw⟩ := b
          simp only at e h3
          rw [e, h] at h3
          cases h3
          rw [e]
        · left; exact ⟨h1, by omega, h3⟩
theorem bxs_rise (f : Int → Option (List Int)) : ∀ q, ((bxs f q).map PBox.h).Pairwise (· < ·)
  | 0 => List.Pairwise.nil
  | q + 1 => by
    cases h : f ((q : Int) + 1) with
    | none => rw [bxs_none h]; exact bxs_rise f q
    | some ws =>
      rw [bxs_some h, List.map_append, List.pairwise_append]
      refine ⟨bxs_rise f q, by simp, fun a ha b hb => ?_⟩
      obtain ⟨y, hy, rfl⟩ := List.mem_map.1 ha
      have := ((bxs_mem f q y).1 hy).2.1
      simp at hb
      omega
/-- A state of just these. -/
theorem boxed_all {f : Int → Option (List Int)} (hf : ∀ x, U64 x → (f x).isSome = true → x ≤ 64) (roots : List Int) : Boxed6 ⟨roots, noZero f⟩ (bxs f 64) := by
  refine ⟨bxs_rise f 64, fun x => ?_, fun b hb => ?_⟩
  · constructor
    · intro hx
      obtain ⟨b, hb, rfl⟩ := List.mem_map.1 hx
      obtain ⟨h1, h2, h3⟩ := (bxs_mem f 64 b).1 hb
      refine ⟨⟨by omega, by omega⟩, ?_⟩
      show (noZero f b.h).isSome = true
      unfold noZero
      rw [if_neg (by omega), h3]; rfl
    · rintro ⟨hu, hs⟩
      have hs : (noZero f x).isSome = true := hs
      unfold noZero at hs
      split at hs
      · cases hs
      · have h64 := hf x hu hs
        obtain ⟨ws, hw⟩ := Option.isSome_iff_exists.1 hs
        exact List.mem_map.2 ⟨⟨x, ws⟩, (bxs_mem f 64 _).2 ⟨by unfold U64 at hu; show 1 ≤ x; omega, by simpa using h64, hw⟩, rfl⟩
  · obtain ⟨h1, h2, h3⟩ := (bxs_mem f 64 b).1 hb
    show noZero f b.h = _
    unfold noZero
    rw [if_neg (by omega), h3]
theorem none_all {f : Int → Option (List Int)} (hf : ∀ x, U64 x → (f x).isSome = true → x ≤ 64) (roots : List Int) : SameSt ⟨roots, noZero f⟩ ⟨roots, noZero fun _ => none⟩ ↔ bxs f 64 = [] := by
  constructor
  · rintro ⟨_, h⟩
    refine List.eq_nil_iff_forall_not_mem.2 fun b hb => ?_
    obtain ⟨h1, h2, h3⟩ := (bxs_mem f 64 b).1 hb
    have h4 : noZero f b.h = noZero (fun _ => none) b.h := h b.h ⟨by omega, by omega⟩
    have : noZero f b.h = none := by rw [h4]; unfold noZero; simp
    unfold noZero at this
    rw [if_neg (by omega), h3] at this
    cases this
  · intro h
    refine ⟨rfl, fun x hx => ?_⟩
    show noZero f x = noZero (fun _ => none) x
    unfold noZero
    by_cases h0 : x = 0
    · simp [h0]
    · rw [if_neg h0]
      cases hfx : f x with
      | none => simp
      | some ws =>
        have h64 := hf x hx (by rw [hfx]; rfl)
        have : (⟨x, ws⟩ : PBox) ∈ bxs f 64 := (bxs_mem f 64 _).2 ⟨by unfold U64 at hx; show 1 ≤ x; omega, by simpa using h64, hfx⟩
        rw [h] at this
        simp at this
theorem size_pos {P : Program} {K : TypeId} {R : Value → Option (DataW Unit × List MemPlace)} {w : World} {b n : Nat} {D : DataW Unit} (h : w.ownsMap P K R b n D) {k : Lit} (hk : Maps.has D k = true) : 0 < Maps.size D := by
  obtain ⟨es, e⟩ : ∃ es, D = .map es := by
    obtain ⟨es, _, _, _, _, rfl⟩ := h
    exact ⟨_, rfl⟩
  subst e
  rcases es with _ | ⟨x, es⟩
  · cases hk
  · show 0 < (x :: es).length
    simp
theorem wf_wrap64 (x : Int) : (Lit.int .i64 (IntKind.i64.wrap x)).wf = true := by
  rw [IntKind.wrap_i64]
  simp [Lit.wf, IntKind.min, IntKind.max, IntKind.signed, IntKind.bits]
  omega
end Go.Proofs.Ytddaeaimimdonaa
