/-
  Chapter 2: contract of tumblerlaw02.as.
-/
import Derived.Test.YthfienjmajllpaaDoorGlyI
import Derived.Test.YthfienjmajllpaaDoorGlyL
import Derived.Deep.QuietTactic
import Derived.BigQuiet
namespace Go.Proofs.YthfienjmajllpaaDoor
open Go.RowKit
set_option linter.unusedVariables false

theorem info_rtok : (Tryd.prog.info? 37).map (fun i => (i.zero, i.size, i.bytes)) = some (some (.agg #[.int .i64 0, .string ⟨#[]⟩, .int .u64 0, .int .i64 0, .int .i64 0]), 5, 48) := by kernel_rfl
/-- A slice of the reference's tokens, made here. -/
def AsPost (l : List Tok) (w : World) (e : Ending) (w' : World) : Prop :=
  ∃ A c, e = .returned (.slice A l.length c) ∧ w'.ownsRow w.heap.size 37 5 (.slice A l.length c) l.length (tokCells l) ∧ Below w.heap.size w w'

set_option maxRecDepth 100000 in
set_option maxHeartbeats 4000000 in
theorem as_in (F : Fence) (nn : Nat) (hF : F.fn 12) (hro : F.round = none) (l : List Tok) (A : Option Addr) (n c : Nat) (w : World) (hL : RdT w w.heap.size A n l) (h48 : n ≤ 1000000) :
    CallsIn F nn Tryd.prog 12 #[.slice A n c] w (AsPost l w) := by
  obtain ⟨i0, hi0, hz0, hz1, hz2⟩ := info_parts info_rtok
  have HLl := Lib.hid hL.tokLen
  have HL := Lib.hid hL
  clear hL
  refine callsIn_of_wp Tryd.func12 rfl hF ?_ hro
  simp only [Tryd.ntmps12, List.size_toArray, List.length_cons, List.length_nil, Nat.reduceAdd, Nat.reduceSub, Array.replicate_succ, Array.replicate_zero, List.push_toArray, List.append_toArray, List.nil_append, List.cons_append]
  gi_wp2
  gi_loopw [9, 3, 5] (fun i lv _u wr => ∃ k : Nat, (k ≤ n ∧ i = .int .i64 k) ∧ wr.ownsRow w.heap.size 37 5 lv k (tokCells (l.take k)) ∧ Below w.heap.size w wr) (fun i _ _ _ => n - (intOf i).toNat)
  case atStart => exact ⟨0, ⟨by omega, rfl⟩, World.ownsRow_made w #[] 0 (Nat.le_refl _) (by simp [maxLen]) rfl, (Below.refl _ _).alloc (Nat.le_refl _) _⟩
  case round =>
    obtain ⟨k, ⟨hk, rfl⟩, hown, hb⟩ := hrel
    have hsz := hb.size
    have HO := Lib.hid hown
    have HB := Lib.hid hb
    obtain ⟨Al, cl, rfl, hcl, _⟩ := Rd.of_own_cap hown
    clear hown hb
    by_cases hlt : k < n
    · obtain ⟨b0, o0, t, hA, hbB, ht, c0, c1, c2, c3, c4⟩ := (HL.out.below HB.out).tokAt hlt
      subst hA
      have HT : Hid (l.take (k + 1) = l.take k ++ [t]) := by show _ = _; rw [List.take_add_one, ht]; rfl
      clear ht
      obtain ⟨kind, text, num, at_, line⟩ := t
      simp only at c0 c1 c2 c3 c4
      have HN : Hid (∀ o : Obj, RdT ((wr.alloc o).alloc (.cells #[.int .i64 kind, .string text, .int .u64 num, .int .i64 at_, .int .i64 line] 37)) (wr.heap.size + 1 + 1) (some ⟨wr.heap.size + 1, 0, none⟩) 1 [⟨kind, text, num, at_, line⟩]) := fun o => Rd.newAt (wr.alloc o) _ _ _ (by simp) (size := 5) (m := 1) rfl (by simp [maxLen])
      gi_wp2_with (gi_at_builtin; refine wpListIn_append_own _ rfl (.tmp 13) (.tmp 15) 29 rfl w.heap.size 37 i0 _ 5 48 Tryd.underlying29 hi0 hz0 hz1 hz2 rfl (by decide) _ k (tokCells (l.take k)) rfl ?c1 ⟨wr.heap.size + 1, 0, none⟩ 1 1 (tokCells [⟨kind, text, num, at_, line⟩]) ?c2 ?c3 ?c4 (tokCells_one _) ?c5 ?c6 ?c7 ?_)
      case c1 => exact (HO.out.alloc _).alloc _
      case c2 => rfl
      case c3 => rfl
      case c4 => exact rd_cells _ (HN.out _) (by decide)
      case c5 => simp only [maxLen]; omega
      case c6 => omega
      case c7 => simp; omega
      intro v5 w5 hown5 hg5 _
      rw [← tokCells_append, ← HT.out] at hown5
      have HO5 := Lib.hid hown5
      have HB5 := Lib.hid (below_own ((HB.out.alloc hsz _).alloc (by simp; omega) _) ((HO.out.alloc _).alloc _) hg5 (Nat.le_refl _) (by simp; omega))
      clear hown5 hg5
      gi_wp2
      go_roundw
      case rel => exact ⟨k + 1, ⟨by omega, by go_num⟩, HO5.out, HB5.out⟩
      case measure => simp [intOf]; omega
    · obtain rfl : n = k := by omega
      have HE : Hid (AsPost l w (.returned (.slice Al n cl)) wr) := by
        have h := HO.out
        rw [List.take_of_length_le (by rw [HLl.out]; exact Nat.le_refl _)] at h
        refine ⟨Al, cl, by rw [HLl.out], ?_, HB.out⟩
        rw [HLl.out]; exact h
      gi_wp2
      go_ret
      exact HE.out
theorem as_any (l : List Tok) (A : Option Addr) (n c : Nat) (w : World) (hL : RdT w w.heap.size A n l) (h48 : n ≤ 1000000) :
    Calls Tryd.prog 12 #[.slice A n c] w (AsPost l w) :=
  (callsIn_wide (n := 9)).1 (as_in Fence.wide 9 trivial rfl l A n c w hL h48)
end Go.Proofs.YthfienjmajllpaaDoor
