/-
  Chapter 25: contract of report.Things of a world of nothing.
-/
import Derived.Test.YthklmcpjlpaklaaDoorRepI
import Derived.Test.YthklmcpjlpaklaaDoorShelf
namespace Go.Proofs.YthklmcpjlpaklaaDoor
open Go.RowKit
set_option linter.unusedVariables false

theorem Bld.below {B b : Nat} {bs : List Value} {w w' : World} (h : Bld B b bs w) (hb : Below w.heap.size w w') : Bld B b bs w' := by
  have hk : ∀ (k : Nat) (o : Obj), w.heap[k]? = some o → w'.heap[k]? = some o := fun k o hk => (hb.block k (Array.getElem?_eq_some_iff.1 hk).1).trans hk
  have hA : ∀ p, Lib.BuilderAtF 102 5 B b p bs w → Lib.BuilderAtF 102 5 B b p bs w' := by
    rintro p ⟨h1, v, h2, h3, h4⟩
    refine ⟨h1, v, hk _ _ h2, ⟨h3.1, ?_⟩, h4⟩
    rcases h3.2 with h0 | ⟨g, cap, cur, fz, hv, hbb, hg, rest⟩
    · exact .inl h0
    · exact .inr ⟨g, cap, cur, fz, hv, hbb, hk _ _ hg, rest⟩
  rcases h with h | h
  · exact .inl (hA _ h)
  · exact .inr (hA _ h)
set_option maxRecDepth 100000 in
set_option maxHeartbeats 4000000 in
theorem things_none (g : Nat) (w : World) (hg : g < w.heap.size) (hc : ∀ i, i < 48 → w.cell? ⟨g, i, none⟩ = some (.pointer none)) :
    Calls Tryd.prog 18 #[.pointer (some ⟨g, 0, none⟩)] w fun e w' => e = .returned (.string ⟨#[]⟩) ∧ Below w.heap.size w w' := by
  have HC := Lib.hid hc
  clear hc
  go_enter Tryd.func18, Tryd.ntmps18
  go_wp2
  go_loopw [5, 4] (fun t _u wr => ∃ k : Nat, (k ≤ 16 ∧ t = .int .i64 k) ∧ Bld w.heap.size w.heap.size (Lib.byteCells []) wr ∧ Below w.heap.size w wr) (fun t _ _ => 16 - (intOf t).toNat)
  case atStart => exact ⟨0, ⟨by omega, rfl⟩, Lib.IsBuilderF.of (Lib.fresh_isBuilder _ _ w), (Below.refl _ _).alloc (Nat.le_refl _) _⟩
  case round =>
    obtain ⟨k, ⟨hk, rfl⟩, hbl, hb⟩ := hrel
    have HB := Lib.hid hb
    have HBl := Lib.hid hbl
    have hsz := hb.size
    clear hb hbl
    by_cases hlt : k < 16
    · have c0 : ∀ i, i < 48 → wr.cell? ⟨g, i, none⟩ = some (.pointer none) := fun i hi => (HB.out.cell (p := ⟨g, i, none⟩) hg).trans (HC.out i hi)
      go_wp2_with fail
      refine (at_none g k _ hlt (Nat.lt_of_lt_of_le hg hsz) c0).mono ?_
      rintro e w1 ⟨rfl, hb1⟩
      have L1 := Lib.hid (HBl.out.below hb1)
      have B1 := Lib.hid (HB.out.trans (hb1.mono hsz))
      clear hb1 c0
      go_wp2_with fail
      refine (thing_none k _).mono ?_
      rintro e w2 ⟨rfl, hb2⟩
      have L2 := Lib.hid (L1.out.below hb2)
      have B2 := Lib.hid (B1.out.trans (hb2.mono B1.out.size))
      clear hb2
      go_wp2_with fail
      refine (wstring_any _ _ _ ⟨#[]⟩ _ L2.out (by decide) B2.out.size).mono ?_
      rintro e w3 ⟨rfl, hb3, hf3⟩
      have L3 : Hid (Bld w.heap.size w.heap.size (Lib.byteCells []) w3) := hb3
      have B3 := Lib.hid (B2.out.trans hf3.below)
      clear hb3 hf3
      go_wp2
      go_roundw
      case rel => exact ⟨k + 1, ⟨by omega, by go_num⟩, L3.out, B3.out⟩
      case measure => simp [intOf]; omega
    · go_wp2_with fail
      refine (Tryd.Builder_String_any_k _ _ [] _ HBl.out hsz).mono ?_
      rintro e w1 ⟨rfl, _, hb1, _⟩
      have HB1 := Lib.hid (HB.out.trans hb1)
      clear hb1
      go_wp2
      go_ret
      exact ⟨rfl, HB1.out⟩
end Go.Proofs.YthklmcpjlpaklaaDoor
