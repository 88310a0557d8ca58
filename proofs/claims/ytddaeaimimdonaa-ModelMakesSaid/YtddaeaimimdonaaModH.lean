/-
  Chapter 6: contract of State.Clone.
-/
import Derived.Test.YtddaeaimimdonaaModG
import Derived.Test.YtddaeaimimdonaaShelf
import Derived.Deep.RegionHeld3
namespace Go.Proofs.Ytddaeaimimdonaa
open Go.RowKit Go.Maps
set_option linter.unusedVariables false

theorem StIn.more {w w' : World} {B n sb mb : Nat} {s : MSt} (h : StIn w B n sb mb s) (hg : w.grownBy w' none) : StIn w' B n sb mb s :=
  ⟨Bk.grown h.st hg (by simp), h.map.kept hg (by simp), h.roots, h.bs, h.bm⟩
theorem StIn.rangeAt {w : World} {B n sb mb : Nat} {s : MSt} (h : StIn w B n sb mb s) : w.rangeAt sb 0 (u64s s.roots) := by
  intro j v hv
  rw [u64s, List.getElem?_map] at hv
  obtain ⟨z, hz, rfl⟩ := Option.map_eq_some_iff.1 hv
  have hj : j < s.roots.length := (List.getElem?_eq_some_iff.1 hz).1
  rw [Nat.zero_add, h.st.root hj, List.getD_eq_getElem?_getD, hz]; rfl
theorem clone_map (mb n : Nat) (f : Int → Option (List Int)) (w : World) (h : OwnB w Try.prog 24 mb n f) :
    Calls Try.prog 37 #[.map (some mb)] w fun e w' => e = .returned (.map (some w.heap.size)) ∧ OwnB w' Try.prog 24 w.heap.size n f ∧ Below w.heap.size w w' := by
  obtain ⟨D, h, hv⟩ := h
  have hcon := AnyW.maps_Clone_owns Try.cloneB 24 blkR mb n D w h
  change Calls Try.prog 37 _ _ _ at hcon
  exact hcon.mono fun e w' ⟨he, h1, _, hb⟩ => ⟨he, ⟨D, h1, hv⟩, hb⟩
def ClonePost (n : Nat) (s : MSt) (w : World) (e : Ending) (w' : World) : Prop := ∃ sb mb, e = .returned (.pointer (some ⟨sb, 0, none⟩)) ∧ StIn w' w.heap.size n sb mb s ∧ Below w.heap.size w w'
set_option maxRecDepth 100000 in
set_option maxHeartbeats 4000000 in
theorem mclone_any (B n sb mb : Nat) (s : MSt) (w : World) (h : StIn w B n sb mb s) :
    Calls Try.prog 18 #[.pointer (some ⟨sb, 0, none⟩)] w (ClonePost n s w) := by
  have HS := Lib.hid h
  obtain ⟨z0, z1, z2, z3, z4, z5, z6, z7, z8, z9, z10, z11, z12, z13, z14, z15, hz⟩ := sixteen h.roots
  have d0 : w.rangeAt sb 0 (u64s [z0, z1, z2, z3, z4, z5, z6, z7, z8, z9, z10, z11, z12, z13, z14, z15]) := by rw [← hz]; exact h.rangeAt
  have d1 := h.st.map h.roots
  have e0 : w.drew.rangeAt sb 0 (u64s [z0, z1, z2, z3, z4, z5, z6, z7, z8, z9, z10, z11, z12, z13, z14, z15]) := d0
  have e1 : w.drew.cell? ⟨sb, 16, none⟩ = some (.map (some mb)) := d1
  have HZ := Lib.hid hz
  have hcs : (Try.prog.info? 52).map (·.size) = some (u64s [z0, z1, z2, z3, z4, z5, z6, z7, z8, z9, z10, z11, z12, z13, z14, z15]).length := by kernel_rfl
  have hu52 := Try.underlying52
  have HSd : Hid (StIn w.drew B n sb mb s) := h.more (grown_drew _ _)
  have HBd : Hid (Below w.heap.size w w.drew) := (Below.refl _ _).drew
  have hzd : w.heap.size ≤ w.drew.heap.size := Nat.le_refl _
  clear h hz
  go_enter Try.func18, Try.ntmps18
  go_wp2_with fail
  go_region_held3 (fun w' => w'.rangeAt sb 0 (u64s [z0, z1, z2, z3, z4, z5, z6, z7, z8, z9, z10, z11, z12, z13, z14, z15]) ∧ w'.cell? ⟨sb, 16, none⟩ = some (.map (some mb)))
    (first | exact ⟨e0, e1⟩ | exact ⟨d0, d1⟩ | exact ⟨fun j v hv => (World.cell?_alloc_old _ _ _ (Nat.ne_of_lt (World.block_lt_of_cell? _ _ (e0 j v hv)))).trans (e0 j v hv), (World.cell?_alloc_old _ _ _ (Nat.ne_of_lt (World.block_lt_of_cell? _ _ e1))).trans e1⟩ | go_keep)
    (first
      | (go_at_call 37
         refine (clone_map mb n s.blocks _ HSd.out.map).mono ?_
         rintro e wn ⟨rfl, hon, hbn⟩
         have HOn := Lib.hid hon
         have HSd := Lib.hid (HSd.out.more ⟨hbn.os, hbn.tape, hbn.output, hbn.size, fun k hk _ => hbn.block k hk⟩)
         have HBd := Lib.hid (HBd.out.trans (hbn.mono hzd))
         have e0 : wn.rangeAt sb 0 (u64s [z0, z1, z2, z3, z4, z5, z6, z7, z8, z9, z10, z11, z12, z13, z14, z15]) := by rw [← HZ.out]; exact HSd.out.rangeAt
         have e1 : wn.cell? ⟨sb, 16, none⟩ = some (.map (some mb)) := HSd.out.st.map HSd.out.roots
         clear hbn hon))
  all_goals
    go_wp2
    go_ret
    have hbs := HBd.out.size
    refine ⟨wn.heap.size, w.heap.size, rfl, ⟨?_, HOn.out.alloc _, HS.out.roots, hbs, Nat.le_refl _⟩, HBd.out.alloc hbs _⟩
    show Bk _ _ _ _
    rw [stCells, HZ.out]
    exact Bk.new _ _ _
end Go.Proofs.Ytddaeaimimdonaa
