import Derived.Test.YtjggmimaolddkaaOrAY
import Derived.Test.YtjggmimaolddkaaOrAL
import Derived.Test.YtjggmimaolddkaaOrAR
import Derived.Test.YtjggmimaolddkaaOrAA
import Derived.ProofKit
import Derived.OpenShut
import Derived.ShutString
import Derived.ChangeOld
import Derived.Carry
import Derived.Deep.Slices
import Derived.Deep.Fields
namespace Go.Proofs.Ytjggmimaolddkaa
open Go.RowKit
set_option linter.unusedVariables false
def live17c : Cfg := ⟨2, 3, 20, 50, 5, 99⟩
def live17p : List Ins := [⟨9, 1, 2, 0, 0⟩, ⟨0, 3, 0, 0, 1⟩, ⟨2, 4, 1, 3, 0⟩, ⟨10, 4, 2, 0, 0⟩, ⟨20, 1, 0, 0, 0⟩]
def live17a : Rc7 := ⟨0, 1, 0, 0, 0, 0, 0, 1, 9, 0, true, 0, 1⟩
def live17b : Rc7 := ⟨1, 1, 0, 0, 0, 0, 0, 2, 8, 0, true, 0, 0⟩
def live17d : Rc7 := ⟨1, 1, 0, 0, 0, 0, 0, 10, 12, 0, true, 0, 0⟩
def live17x : Rx := ⟨⟨3, 1, 1, 0, 0, .slice none 0 0⟩, []⟩
def live17y : Rx := ⟨⟨4, 0, 1, 0, 1, .slice none 0 0⟩, []⟩
def live17s : MSt := afterP (afterP emptyS (runRow live17c [live17p] live17b emptyS live17x)) (runRow live17c [live17p] live17a (afterP emptyS (runRow live17c [live17p] live17b emptyS live17x)) live17y)
theorem live17_fits : fits7 [live17a, live17b] [live17x.r, live17y.r] = (0, 0) := by kernel_rfl
theorem live17_fits1 : fits7 [live17a, live17b] [live17y.r] = (1, 4) := by kernel_rfl
theorem live17_replay : replayP live17c [live17p] [live17a, live17b] [live17x, live17y] = (some live17s, 0, 0) := by kernel_rfl
theorem live17_replay2 : replayP live17c [live17p] [live17a, live17b] [live17y, live17x] = (none, 0, 51) := by kernel_rfl
theorem live17_root : rootAt live17s 0 = 2 := by kernel_rfl
theorem live17_yes : fromP live17c [live17p] [live17a, live17b] 2 emptyS [0, 0] = true := by kernel_rfl
theorem live17_no : fromP live17c [live17p] [live17a, live17d] 2 emptyS [0, 0] = false := by kernel_rfl
theorem live17_right : live17c.Right := ⟨by decide, by decide, by decide, by decide, by decide⟩
theorem bk_new1 {w : World} (g : Nat) (hg : w.heap.size = g) (t : TypeId) (cs : Array Value) : Bk (w.alloc (.cells cs t)) g t cs := by subst hg; exact Bk.new _ _ _
structure L17 (w : World) (g0 g1 g2 g3 g4 : Nat) : Prop where
 c : Bk w g0 44 #[.int .i64 2, .int .i64 3, .int .i64 20, .int .i64 50, .int .u64 5, .int .u64 99]
 i : Bk w g1 62 #[.int .i64 9, .int .i64 1, .int .i64 2, .int .i64 0, .int .u64 0, .int .i64 0, .int .i64 3, .int .i64 0, .int .i64 0, .int .u64 1, .int .i64 2, .int .i64 4, .int .i64 1, .int .i64 3, .int .u64 0, .int .i64 10, .int .i64 4, .int .i64 2, .int .i64 0, .int .u64 0, .int .i64 20, .int .i64 1, .int .i64 0, .int .i64 0, .int .u64 0]
 p : Bk w g2 63 #[.slice (some ⟨g1, 0, none⟩) 5 5]
 r : Bk w g3 41 #[.int .i64 0, .int .i64 1, .int .i64 0, .int .u64 0, .int .u64 0, .int .u64 0, .int .u64 0, .int .i64 1, .int .i64 9, .int .i64 0, .bool true, .int .i64 0, .int .u64 1, .int .i64 1, .int .i64 1, .int .i64 0, .int .u64 0, .int .u64 0, .int .u64 0, .int .u64 0, .int .i64 2, .int .i64 8, .int .i64 0, .bool true, .int .i64 0, .int .u64 0]
 x : Bk w g4 36 #[.int .i64 3, .int .i64 1, .int .i64 1, .int .i64 0, .int .u64 0, .slice none 0 0, .int .i64 4, .int .i64 0, .int .i64 1, .int .i64 0, .int .u64 1, .slice none 0 0]
theorem Bk.rd {w : World} {g : Nat} {t : TypeId} {cs : Array Value} (h : Bk w g t cs) {size m : Nat} (hs : cs.size = m * size) (hm : m ≤ maxLen) : Rd w w.heap.size size (some ⟨g, 0, none⟩) m cs.toList :=
 ⟨by simpa using hs, hm, fun _ => ⟨g, 0, rfl, h.lt, fun j u hu => by rw [Nat.zero_add, h.cell]; simpa using hu⟩⟩
section
variable {w w' : World} {g0 g1 g2 g3 g4 : Nat}
theorem L17.below (h : L17 w g0 g1 g2 g3 g4) (hb : Below w.heap.size w w') : L17 w' g0 g1 g2 g3 g4 :=
 ⟨h.c.below hb h.c.lt, h.i.below hb h.i.lt, h.p.below hb h.p.lt, h.r.below hb h.r.lt, h.x.below hb h.x.lt⟩
theorem L17.recs (h : L17 w g0 g1 g2 g3 g4) : RdR w w.heap.size (some ⟨g3, 0, none⟩) 2 [live17a, live17b] := h.r.rd (size := 13) (m := 2) rfl (by simp [maxLen])
theorem L17.rows (h : L17 w g0 g1 g2 g3 g4) : RowsIn w w.heap.size (some ⟨g4, 0, none⟩) 2 [live17x, live17y] :=
 ⟨h.x.rd (size := 6) (m := 2) rfl (by simp [maxLen]), fun x hx => by
  simp at hx
  rcases hx with rfl | rfl
  ·exact ⟨none, 0, rfl, Rd.nil _ _ _ _, Nat.le_refl _⟩
  ·exact ⟨none, 0, rfl, Rd.nil _ _ _ _, Nat.le_refl _⟩⟩
theorem L17.progs (h : L17 w g0 g1 g2 g3 g4) : ProgsIn w w.heap.size (some ⟨g2, 0, none⟩) 1 [live17p] :=
 ⟨rfl, by simp [maxLen], fun k q hq => by
  have hk : k = 0 := by
   have := (List.getElem?_eq_some_iff.1 hq).1
   simp at this; exact this
  subst hk
  simp at hq
  subst hq
  exact ⟨g2, 0, some ⟨g1, 0, none⟩, 5, rfl, h.p.lt, h.p.cell 0, h.i.rd (size := 5) (m := 5) rfl (by simp [maxLen]), by decide⟩⟩
end
theorem live17_ins : ∀ p ∈ [live17p], ∀ i ∈ p, i.Ok ∧ i.op ≠ 15 := by
 intro p hp i hi
 simp at hp
 subst hp
 simp [live17p] at hi
 rcases hi with rfl | rfl | rfl | rfl | rfl <;> exact ⟨⟨by decide, by decide, by decide, by decide, by decide⟩, by decide⟩
theorem live17_rec (q : Rc7) (h : q = live17a ∨ q = live17b ∨ q = live17d) : q.Ok ∧ q.code ≠ 45 := by
 rcases h with rfl | rfl | rfl
 all_goals
  refine ⟨⟨⟨by decide, by decide⟩, fun a ha => ?_⟩, by decide⟩
  simp [Rc7.args, live17a, live17b, live17d] at ha
  subst ha
  exact ⟨by decide, by decide⟩
theorem live17_row (x : Rx) (h : x = live17x ∨ x = live17y) : x.Ok := by
 rcases h with rfl | rfl
 all_goals exact ⟨⟨⟨by decide, by decide⟩, by decide, _, _, _, rfl⟩, fun h hh => by simp [live17x, live17y] at hh, by decide⟩
theorem rows_elem : Try.prog.underlying 23 = some (.slice (Try.prog.elem 23)) := by kernel_rfl
theorem rows_size (W : World) : (sizeOf (Try.prog.elem 23)).run Try.prog W = .ok 6 W := by kernel_rfl
set_option maxRecDepth 100000 in
set_option maxHeartbeats 8000000 in
theorem alive17_any (w : World) : Calls Try.prog 6 #[] w fun e w' => e = .returned (.bool true) ∧ Below w.heap.size w w' := by
 go_enter Try.func6, Try.ntmps6
 go_upto_region 5 with fail
 obtain ⟨W5, hW5⟩ : ∃ W5, (((((w.alloc (.cells #[.int .i64 2, .int .i64 3, .int .i64 20, .int .i64 50, .int .u64 5, .int .u64 99] 44)).alloc (.cells #[.int .i64 9, .int .i64 1, .int .i64 2, .int .i64 0, .int .u64 0, .int .i64 0, .int .i64 3, .int .i64 0, .int .i64 0, .int .u64 1, .int .i64 2, .int .i64 4, .int .i64 1, .int .i64 3, .int .u64 0, .int .i64 10, .int .i64 4, .int .i64 2, .int .i64 0, .int .u64 0, .int .i64 20, .int .i64 1, .int .i64 0, .int .i64 0, .int .u64 0] 62)).alloc (.cells #[.slice (some ⟨w.heap.size + 1, 0, none⟩) 5 5] 63)).alloc (.cells #[.int .i64 0, .int .i64 1, .int .i64 0, .int .u64 0, .int .u64 0, .int .u64 0, .int .u64 0, .int .i64 1, .int .i64 9, .int .i64 0, .bool true, .int .i64 0, .int .u64 1, .int .i64 1, .int .i64 1, .int .i64 0, .int .u64 0, .int .u64 0, .int .u64 0, .int .u64 0, .int .i64 2, .int .i64 8, .int .i64 0, .bool true, .int .i64 0, .int .u64 0] 41)).alloc (.cells #[.int .i64 3, .int .i64 1, .int .i64 1, .int .i64 0, .int .u64 0, .slice none 0 0, .int .i64 4, .int .i64 0, .int .i64 1, .int .i64 0, .int .u64 1, .slice none 0 0] 36)) = W5 := ⟨_, rfl⟩
 rw [hW5]
 have HL : Hid (L17 W5 w.heap.size (w.heap.size + 1) (w.heap.size + 1 + 1) (w.heap.size + 1 + 1 + 1) (w.heap.size + 1 + 1 + 1 + 1)) := by
  show L17 _ _ _ _ _ _
  rw [← hW5]
  refine ⟨((((Bk.new w _ _).alloc _).alloc _).alloc _).alloc _, (((bk_new1 _ (by simp) _ _).alloc _).alloc _).alloc _, ?_, ?_, ?_⟩
  ·exact ((bk_new1 _ (by simp) _ _).alloc _).alloc _
  ·exact (bk_new1 _ (by simp) _ _).alloc _
  ·exact bk_new1 _ (by simp) _ _
 have HB : Hid (Below w.heap.size w W5) := by
  show Below _ _ _
  rw [← hW5]
  exact (((((Below.refl _ _).alloc (Nat.le_refl _) _).alloc (by simp) _).alloc (by simp; omega) _).alloc (by simp; omega) _).alloc (by simp; omega) _
 obtain ⟨g4, hg4⟩ : ∃ g4, w.heap.size + 1 + 1 + 1 + 1 = g4 := ⟨_, rfl⟩
 rw [hg4] at HL ⊢
 obtain ⟨g3, hg3⟩ : ∃ g3, w.heap.size + 1 + 1 + 1 = g3 := ⟨_, rfl⟩
 rw [hg3] at HL ⊢
 obtain ⟨g2, hg2⟩ : ∃ g2, w.heap.size + 1 + 1 = g2 := ⟨_, rfl⟩
 rw [hg2] at HL ⊢
 obtain ⟨g1, hg1⟩ : ∃ g1, w.heap.size + 1 = g1 := ⟨_, rfl⟩
 rw [hg1] at HL ⊢
 clear hW5 hg4 hg3 hg2 hg1
 have hfits := live17_fits
 go_upto_region 6 with
  (go_at_call 7
   refine (ofits_any [live17a, live17b] [live17x.r, live17y.r] _ 2 2 _ 2 2 _ HL.out.recs HL.out.rows.rows (fun r hr => by simp at hr; rcases hr with rfl | rfl; exact (live17_row live17x (.inl rfl)).row; exact (live17_row live17y (.inr rfl)).row) (fun q hq => by simp at hq; rcases hq with rfl | rfl; exact (live17_rec live17a (.inl rfl)).1.key; exact (live17_rec live17b (.inr (.inl rfl))).1.key) (by omega)).mono ?_
   rintro e W6 ⟨rfl, hb6⟩
   rw [live17_fits]
   have HL := Lib.hid (HL.out.below hb6)
   have HB := Lib.hid (HB.out.trans (hb6.mono HB.out.size))
   clear hb6)
 obtain ⟨A1, hcut, hrd1⟩ := cut_l (P := Try.prog) (c := 2) 23 rows_elem rows_size HL.out.rows.rows (Nat.le_refl _) 1 1 rfl (by omega)
 have HR1 : Hid (RdW7 W6 W6.heap.size A1 1 [live17y.r]) := hrd1
 simp only [Nat.reduceSub] at hcut
 clear hrd1 hfits
 go_upto_region 7 with
  (go_at_call 7
   refine (ofits_any [live17a, live17b] [live17y.r] _ 2 2 _ 1 1 _ HL.out.recs HR1.out (fun r hr => by simp at hr; subst hr; exact (live17_row live17y (.inr rfl)).row) (fun q hq => by simp at hq; rcases hq with rfl | rfl; exact (live17_rec live17a (.inl rfl)).1.key; exact (live17_rec live17b (.inr (.inl rfl))).1.key) (by omega)).mono ?_
   rintro e W7 ⟨rfl, hb7⟩
   rw [live17_fits1]
   have HL := Lib.hid (HL.out.below hb7)
   have HB := Lib.hid (HB.out.trans (hb7.mono HB.out.size))
   clear hb7)
 clear hcut HR1
 have c0 : W7.cell? ⟨w.heap.size, 0, none⟩ = some (.int .i64 2) := HL.out.c.cell 0
 have c1 : W7.cell? ⟨w.heap.size, 1, none⟩ = some (.int .i64 3) := HL.out.c.cell 1
 have c2 : W7.cell? ⟨w.heap.size, 2, none⟩ = some (.int .i64 20) := HL.out.c.cell 2
 have c3 : W7.cell? ⟨w.heap.size, 3, none⟩ = some (.int .i64 50) := HL.out.c.cell 3
 have c4 : W7.cell? ⟨w.heap.size, 4, none⟩ = some (.int .u64 5) := HL.out.c.cell 4
 have c5 : W7.cell? ⟨w.heap.size, 5, none⟩ = some (.int .u64 99) := HL.out.c.cell 5
 have hrec2 : ∀ q ∈ [live17a, live17b], q.Ok := fun q hq => by simp at hq; rcases hq with rfl | rfl; exact (live17_rec live17a (.inl rfl)).1; exact (live17_rec live17b (.inr (.inl rfl))).1
 have HRec2 := Lib.hid hrec2
 have hrow2 : ∀ x ∈ [live17x, live17y], x.Ok := fun x hx => by simp at hx; rcases hx with rfl | rfl; exact live17_row live17x (.inl rfl); exact live17_row live17y (.inr rfl)
 have HRow2 := Lib.hid hrow2
 have hrow3 : ∀ x ∈ [live17y, live17x], x.Ok := fun x hx => by simp at hx; rcases hx with rfl | rfl; exact live17_row live17y (.inr rfl); exact live17_row live17x (.inl rfl)
 have HRow3 := Lib.hid hrow3
 clear hrec2 hrow2 hrow3
 go_upto_region 8 with
  (go_at_call 11
   refine (oreplay_any live17c [live17p] [live17a, live17b] [live17x, live17y] _ 1 1 _ 2 2 _ 2 2 _ HL.out.progs HL.out.recs HL.out.rows (fun p hp i hi => (live17_ins p hp i hi).1) HRec2.out HRow2.out (by omega)).mono ?_
   rintro e W8 hrp
   rw [live17_replay] at hrp
   obtain ⟨pv8, rfl, _, hst8, hb8⟩ := hrp
   obtain ⟨nb, sb, mb, rfl, hst, _, _, _⟩ := hst8 live17s rfl
   have HSt := Lib.hid hst
   have HL := Lib.hid (HL.out.below hb8)
   have HB := Lib.hid (HB.out.trans (hb8.mono HB.out.size))
   clear hb8 hst hst8)
 clear c0 c1 c2 c3 c4 c5
 have c0 : W8.cell? ⟨w.heap.size, 0, none⟩ = some (.int .i64 2) := HL.out.c.cell 0
 have c1 : W8.cell? ⟨w.heap.size, 1, none⟩ = some (.int .i64 3) := HL.out.c.cell 1
 have c2 : W8.cell? ⟨w.heap.size, 2, none⟩ = some (.int .i64 20) := HL.out.c.cell 2
 have c3 : W8.cell? ⟨w.heap.size, 3, none⟩ = some (.int .i64 50) := HL.out.c.cell 3
 have c4 : W8.cell? ⟨w.heap.size, 4, none⟩ = some (.int .u64 5) := HL.out.c.cell 4
 have c5 : W8.cell? ⟨w.heap.size, 5, none⟩ = some (.int .u64 99) := HL.out.c.cell 5
 refine wp_region_held_drew (S := (fun w' => w'.cell? ⟨w.heap.size, 0, none⟩ = some (.int .i64 2) ∧ w'.cell? ⟨w.heap.size, 1, none⟩ = some (.int .i64 3) ∧ w'.cell? ⟨w.heap.size, 2, none⟩ = some (.int .i64 20) ∧ w'.cell? ⟨w.heap.size, 3, none⟩ = some (.int .i64 50) ∧ w'.cell? ⟨w.heap.size, 4, none⟩ = some (.int .u64 5) ∧ w'.cell? ⟨w.heap.size, 5, none⟩ = some (.int .u64 99) ∧ w'.cell? ⟨g4, 0, none⟩ = some (.int .i64 3) ∧ w'.cell? ⟨g4, 1, none⟩ = some (.int .i64 1) ∧ w'.cell? ⟨g4, 2, none⟩ = some (.int .i64 1) ∧ w'.cell? ⟨g4, 3, none⟩ = some (.int .i64 0) ∧ w'.cell? ⟨g4, 4, none⟩ = some (.int .u64 0) ∧ w'.cell? ⟨g4, 5, none⟩ = some (.slice none 0 0) ∧ w'.cell? ⟨g4, 6, none⟩ = some (.int .i64 4) ∧ w'.cell? ⟨g4, 7, none⟩ = some (.int .i64 0) ∧ w'.cell? ⟨g4, 8, none⟩ = some (.int .i64 1) ∧ w'.cell? ⟨g4, 9, none⟩ = some (.int .i64 0) ∧ w'.cell? ⟨g4, 10, none⟩ = some (.int .u64 1) ∧ w'.cell? ⟨g4, 11, none⟩ = some (.slice none 0 0))) (by kernel_rfl) ?_ (fun hHeld => ?_)
 ·exact ⟨HL.out.c.cell 0, HL.out.c.cell 1, HL.out.c.cell 2, HL.out.c.cell 3, HL.out.c.cell 4, HL.out.c.cell 5, HL.out.x.cell 0, HL.out.x.cell 1, HL.out.x.cell 2, HL.out.x.cell 3, HL.out.x.cell 4, HL.out.x.cell 5, HL.out.x.cell 6, HL.out.x.cell 7, HL.out.x.cell 8, HL.out.x.cell 9, HL.out.x.cell 10, HL.out.x.cell 11⟩
 refine takeA 0 ?_
 try simp only [Act.put, pS]
 refine takeA 1 ?_
 try simp only [Act.put, pS]
 refine takeA 2 ?_
 try simp only [Act.put, pS]
 refine takeA 3 ?_
 try simp only [Act.put, pS]
 refine takeA 4 ?_
 try simp only [Act.put, pS]
 refine takeA 5 ?_
 try simp only [Act.put, pS]
 refine takeA 6 ?_
 try simp only [Act.put, pS]
 refine takeA 7 ?_
 try simp only [Act.put, pS]
 refine takeA 8 ?_
 try simp only [Act.put, pS]
 refine comeH 9 rfl rfl rfl rfl (by kernel_rfl) (by rfl) (fun K hK => ?_)
 go_simp
 obtain ⟨W9, hW9⟩ : ∃ W9, (W8.alloc (.cells #[.int .i64 4, .int .i64 0, .int .i64 1, .int .i64 0, .int .u64 1, .slice none 0 0, .int .i64 3, .int .i64 1, .int .i64 1, .int .i64 0, .int .u64 0, .slice none 0 0] 36)).drew = W9 := ⟨_, rfl⟩
 have HX9 := Lib.hid (show Bk W9 W8.heap.size 36 #[.int .i64 4, .int .i64 0, .int .i64 1, .int .i64 0, .int .u64 1, .slice none 0 0, .int .i64 3, .int .i64 1, .int .i64 1, .int .i64 0, .int .u64 0, .slice none 0 0] by rw [← hW9]; exact (Bk.new _ _ _).drew)
 have hb9 : Below W8.heap.size W8 W9 := by rw [← hW9]; exact ((Below.refl _ _).alloc (Nat.le_refl _) _).drew
 have HL := Lib.hid (HL.out.below hb9)
 have HSt := Lib.hid (HSt.out.more (bk_grown_below hb9))
 have HB := Lib.hid (HB.out.trans (hb9.mono HB.out.size))
 rw [hW9]
 obtain ⟨g9, hg9⟩ : ∃ g9, W8.heap.size = g9 := ⟨_, rfl⟩
 rw [hg9] at HX9 ⊢
 clear hW9 hb9 hg9
 refine hK.out _ _ ?_ (fun hHeld => ?_)
 ·exact ⟨HL.out.c.cell 0, HL.out.c.cell 1, HL.out.c.cell 2, HL.out.c.cell 3, HL.out.c.cell 4, HL.out.c.cell 5, HL.out.x.cell 0, HL.out.x.cell 1, HL.out.x.cell 2, HL.out.x.cell 3, HL.out.x.cell 4, HL.out.x.cell 5, HL.out.x.cell 6, HL.out.x.cell 7, HL.out.x.cell 8, HL.out.x.cell 9, HL.out.x.cell 10, HL.out.x.cell 11⟩
 clear hK K
 try simp only [Act.put, pS]
 have hrow9 : RowsIn W9 W9.heap.size (some ⟨g9, 0, none⟩) 2 [live17y, live17x] := ⟨HX9.out.rd (size := 6) (m := 2) rfl (by simp [maxLen]), fun x hx => by
  simp at hx
  rcases hx with rfl | rfl
  ·exact ⟨none, 0, rfl, Rd.nil _ _ _ _, Nat.le_refl _⟩
  ·exact ⟨none, 0, rfl, Rd.nil _ _ _ _, Nat.le_refl _⟩⟩
 have HRow9 := Lib.hid hrow9
 clear hrow9
 refine comeH 10 rfl rfl rfl rfl (by kernel_rfl) (by rfl) (fun K hK => ?_)
 go_simp
 refine (oreplay_any live17c [live17p] [live17a, live17b] [live17y, live17x] _ 1 1 _ 2 2 _ 2 2 _ HL.out.progs HL.out.recs HRow9.out (fun p hp i hi => (live17_ins p hp i hi).1) HRec2.out HRow3.out (by omega)).mono ?_
 rintro e W10 hrp
 rw [live17_replay2] at hrp
 obtain ⟨pv10, rfl, hpv, _, hb10⟩ := hrp
 obtain rfl := hpv rfl
 have HL := Lib.hid (HL.out.below hb10)
 have HSt := Lib.hid (HSt.out.more (bk_grown_below hb10))
 have HB := Lib.hid (HB.out.trans (hb10.mono HB.out.size))
 clear hb10 hpv
 go_simp
 refine hK.out _ _ ?_ (fun hHeld => ?_)
 ·exact ⟨HL.out.c.cell 0, HL.out.c.cell 1, HL.out.c.cell 2, HL.out.c.cell 3, HL.out.c.cell 4, HL.out.c.cell 5, HL.out.x.cell 0, HL.out.x.cell 1, HL.out.x.cell 2, HL.out.x.cell 3, HL.out.x.cell 4, HL.out.x.cell 5, HL.out.x.cell 6, HL.out.x.cell 7, HL.out.x.cell 8, HL.out.x.cell 9, HL.out.x.cell 10, HL.out.x.cell 11⟩
 clear hK K
 try simp only [Act.put, pS]
 refine takeA 11 ?_
 try simp only [Act.put, pS]
 refine takeA 12 ?_
 try simp only [Act.put, pS]
 refine takeA 13 ?_
 try simp only [Act.put, pS]
 refine takeA 14 ?_
 try simp only [Act.put, pS]
 refine takeA 15 ?_
 try simp only [Act.put, pS]
 refine takeA 16 ?_
 try simp only [Act.put, pS]
 refine takeA 17 ?_
 try simp only [Act.put, pS]
 refine wpAnyH_done (by kernel_rfl) ?_ _
 try simp only [Act.put, pS]
 clear c0 c1 c2 c3 c4 c5
 go_upto_region 9 with fail
 obtain ⟨V, hV⟩ : ∃ V, W10 = V := ⟨_, rfl⟩
 subst hV
 have c0 : W10.cell? ⟨w.heap.size, 0, none⟩ = some (.int .i64 2) := HL.out.c.cell 0
 have c1 : W10.cell? ⟨w.heap.size, 1, none⟩ = some (.int .i64 3) := HL.out.c.cell 1
 have c2 : W10.cell? ⟨w.heap.size, 2, none⟩ = some (.int .i64 20) := HL.out.c.cell 2
 have c3 : W10.cell? ⟨w.heap.size, 3, none⟩ = some (.int .i64 50) := HL.out.c.cell 3
 have c4 : W10.cell? ⟨w.heap.size, 4, none⟩ = some (.int .u64 5) := HL.out.c.cell 4
 have c5 : W10.cell? ⟨w.heap.size, 5, none⟩ = some (.int .u64 99) := HL.out.c.cell 5
 have hrecs : ∀ q ∈ [live17a, live17b], q.Ok ∧ q.code ≠ 45 := fun q hq => by simp at hq; rcases hq with rfl | rfl; exact live17_rec live17a (.inl rfl); exact live17_rec live17b (.inr (.inl rfl))
 have HRecs := Lib.hid hrecs
 have hrecs3 : ∀ q ∈ [live17a, live17d], q.Ok ∧ q.code ≠ 45 := fun q hq => by simp at hq; rcases hq with rfl | rfl; exact live17_rec live17a (.inl rfl); exact live17_rec live17d (.inr (.inr rfl))
 have HRecs3 := Lib.hid hrecs3
 clear hrecs hrecs3
 go_upto_region 10 with
  (go_at_call 16
   refine (sexists_any live17c [live17p] [live17a, live17b] _ 1 1 _ 2 _ HL.out.progs HL.out.recs live17_ins HRecs.out live17_right).mono ?_
   rintro e W11 ⟨rfl, hb11⟩
   rw [live17_yes]
   have HL := Lib.hid (HL.out.below hb11)
   have HSt := Lib.hid (HSt.out.more (bk_grown_below hb11))
   have HB := Lib.hid (HB.out.trans (hb11.mono HB.out.size))
   clear hb11)
 clear c0 c1 c2 c3 c4 c5
 refine wp_region_held_drew (S := (fun w' => w'.cell? ⟨g3, 0, none⟩ = some (.int .i64 0) ∧ w'.cell? ⟨g3, 1, none⟩ = some (.int .i64 1) ∧ w'.cell? ⟨g3, 2, none⟩ = some (.int .i64 0) ∧ w'.cell? ⟨g3, 3, none⟩ = some (.int .u64 0) ∧ w'.cell? ⟨g3, 4, none⟩ = some (.int .u64 0) ∧ w'.cell? ⟨g3, 5, none⟩ = some (.int .u64 0) ∧ w'.cell? ⟨g3, 6, none⟩ = some (.int .u64 0) ∧ w'.cell? ⟨g3, 7, none⟩ = some (.int .i64 1) ∧ w'.cell? ⟨g3, 8, none⟩ = some (.int .i64 9) ∧ w'.cell? ⟨g3, 9, none⟩ = some (.int .i64 0) ∧ w'.cell? ⟨g3, 10, none⟩ = some (.bool true) ∧ w'.cell? ⟨g3, 11, none⟩ = some (.int .i64 0) ∧ w'.cell? ⟨g3, 12, none⟩ = some (.int .u64 1) ∧ w'.cell? ⟨g3, 13, none⟩ = some (.int .i64 1) ∧ w'.cell? ⟨g3, 14, none⟩ = some (.int .i64 1) ∧ w'.cell? ⟨g3, 15, none⟩ = some (.int .i64 0) ∧ w'.cell? ⟨g3, 16, none⟩ = some (.int .u64 0) ∧ w'.cell? ⟨g3, 17, none⟩ = some (.int .u64 0) ∧ w'.cell? ⟨g3, 18, none⟩ = some (.int .u64 0) ∧ w'.cell? ⟨g3, 19, none⟩ = some (.int .u64 0) ∧ w'.cell? ⟨g3, 20, none⟩ = some (.int .i64 2) ∧ w'.cell? ⟨g3, 21, none⟩ = some (.int .i64 8) ∧ w'.cell? ⟨g3, 22, none⟩ = some (.int .i64 0) ∧ w'.cell? ⟨g3, 23, none⟩ = some (.bool true) ∧ w'.cell? ⟨g3, 24, none⟩ = some (.int .i64 0) ∧ w'.cell? ⟨g3, 25, none⟩ = some (.int .u64 0))) (by kernel_rfl) ?_ (fun hHeld => ?_)
 ·exact ⟨HL.out.r.cell 0, HL.out.r.cell 1, HL.out.r.cell 2, HL.out.r.cell 3, HL.out.r.cell 4, HL.out.r.cell 5, HL.out.r.cell 6, HL.out.r.cell 7, HL.out.r.cell 8, HL.out.r.cell 9, HL.out.r.cell 10, HL.out.r.cell 11, HL.out.r.cell 12, HL.out.r.cell 13, HL.out.r.cell 14, HL.out.r.cell 15, HL.out.r.cell 16, HL.out.r.cell 17, HL.out.r.cell 18, HL.out.r.cell 19, HL.out.r.cell 20, HL.out.r.cell 21, HL.out.r.cell 22, HL.out.r.cell 23, HL.out.r.cell 24, HL.out.r.cell 25⟩
 refine takeA 0 ?_
 try simp only [Act.put, pS]
 refine takeA 1 ?_
 try simp only [Act.put, pS]
 refine takeA 2 ?_
 try simp only [Act.put, pS]
 refine takeA 3 ?_
 try simp only [Act.put, pS]
 refine takeA 4 ?_
 try simp only [Act.put, pS]
 refine takeA 5 ?_
 try simp only [Act.put, pS]
 refine comeH 6 rfl rfl rfl rfl (by kernel_rfl) (by rfl) (fun K hK => ?_)
 go_simp
 obtain ⟨W12, hW12⟩ : ∃ W12, (W11.alloc (.cells #[.int .i64 0, .int .i64 1, .int .i64 0, .int .u64 0, .int .u64 0, .int .u64 0, .int .u64 0, .int .i64 1, .int .i64 9, .int .i64 0, .bool true, .int .i64 0, .int .u64 1, .int .i64 1, .int .i64 1, .int .i64 0, .int .u64 0, .int .u64 0, .int .u64 0, .int .u64 0, .int .i64 2, .int .i64 8, .int .i64 0, .bool true, .int .i64 0, .int .u64 0] 41)).drew = W12 := ⟨_, rfl⟩
 have HX := Lib.hid (show Bk W12 W11.heap.size 41 #[.int .i64 0, .int .i64 1, .int .i64 0, .int .u64 0, .int .u64 0, .int .u64 0, .int .u64 0, .int .i64 1, .int .i64 9, .int .i64 0, .bool true, .int .i64 0, .int .u64 1, .int .i64 1, .int .i64 1, .int .i64 0, .int .u64 0, .int .u64 0, .int .u64 0, .int .u64 0, .int .i64 2, .int .i64 8, .int .i64 0, .bool true, .int .i64 0, .int .u64 0] by rw [← hW12]; exact (Bk.new _ _ _).drew)
 have hb12 : Below W11.heap.size W11 W12 := by rw [← hW12]; exact ((Below.refl _ _).alloc (Nat.le_refl _) _).drew
 have HGw := Lib.hid (show w.heap.size ≤ W11.heap.size from HB.out.size)
 have HL11 := HL
 have HSt11 := HSt
 have HB11 := HB
 have HB12 := Lib.hid hb12
 have HL := Lib.hid (HL.out.below hb12)
 have HSt := Lib.hid (HSt.out.more (bk_grown_below hb12))
 have HB := Lib.hid (HB.out.trans (hb12.mono HB.out.size))
 rw [hW12]
 clear hW12 hb12
 refine hK.out _ _ ?_ (fun hHeld => ?_)
 ·exact ⟨HL.out.r.cell 0, HL.out.r.cell 1, HL.out.r.cell 2, HL.out.r.cell 3, HL.out.r.cell 4, HL.out.r.cell 5, HL.out.r.cell 6, HL.out.r.cell 7, HL.out.r.cell 8, HL.out.r.cell 9, HL.out.r.cell 10, HL.out.r.cell 11, HL.out.r.cell 12, HL.out.r.cell 13, HL.out.r.cell 14, HL.out.r.cell 15, HL.out.r.cell 16, HL.out.r.cell 17, HL.out.r.cell 18, HL.out.r.cell 19, HL.out.r.cell 20, HL.out.r.cell 21, HL.out.r.cell 22, HL.out.r.cell 23, HL.out.r.cell 24, HL.out.r.cell 25⟩
 clear hK K
 try simp only [Act.put, pS]
 refine takeA 7 ?_
 try simp only [Act.put, pS]
 refine wpAnyH_done (by kernel_rfl) ?_ _
 try simp only [Act.put, pS]
 go_upto_region 11 with fail
 have x20 : W12.cell? ⟨W11.heap.size, 20, none⟩ = some (.int .i64 2) := HX.out.cell 20
 have y20 := HX.out.frozen 20
 have x21 : W12.cell? ⟨W11.heap.size, 21, none⟩ = some (.int .i64 8) := HX.out.cell 21
 have y21 := HX.out.frozen 21
 go_upto_region 12 with fail
 obtain ⟨W13, hW13⟩ : ∃ W13, (W12.setCell ⟨W11.heap.size, 20, none⟩ (.int .i64 10)).setCell ⟨W11.heap.size, 21, none⟩ (.int .i64 12) = W13 := ⟨_, rfl⟩
 have HX := Lib.hid (show Bk W13 W11.heap.size 41 #[.int .i64 0, .int .i64 1, .int .i64 0, .int .u64 0, .int .u64 0, .int .u64 0, .int .u64 0, .int .i64 1, .int .i64 9, .int .i64 0, .bool true, .int .i64 0, .int .u64 1, .int .i64 1, .int .i64 1, .int .i64 0, .int .u64 0, .int .u64 0, .int .u64 0, .int .u64 0, .int .i64 10, .int .i64 12, .int .i64 0, .bool true, .int .i64 0, .int .u64 0] by rw [← hW13]; exact (HX.out.set_ 20 _).set_ 21 _)
 have hb13 : Below W11.heap.size W11 W13 := by rw [← hW13]; exact (HB12.out.setCell (Nat.le_refl _) _).setCell (Nat.le_refl _) _
 have HL := Lib.hid (HL11.out.below hb13)
 have HSt := Lib.hid (HSt11.out.more (bk_grown_below hb13))
 have HB := Lib.hid (HB11.out.trans (hb13.mono HB11.out.size))
 rw [hW13]
 have hrx : RdR W13 W13.heap.size (some ⟨W11.heap.size, 0, none⟩) 2 [live17a, live17d] := HX.out.rd (size := 13) (m := 2) rfl (by simp [maxLen])
 have HRx := Lib.hid hrx
 clear hW13 hb13 hrx x20 y20 x21 y21
 have c0 : W13.cell? ⟨w.heap.size, 0, none⟩ = some (.int .i64 2) := HL.out.c.cell 0
 have c1 : W13.cell? ⟨w.heap.size, 1, none⟩ = some (.int .i64 3) := HL.out.c.cell 1
 have c2 : W13.cell? ⟨w.heap.size, 2, none⟩ = some (.int .i64 20) := HL.out.c.cell 2
 have c3 : W13.cell? ⟨w.heap.size, 3, none⟩ = some (.int .i64 50) := HL.out.c.cell 3
 have c4 : W13.cell? ⟨w.heap.size, 4, none⟩ = some (.int .u64 5) := HL.out.c.cell 4
 have c5 : W13.cell? ⟨w.heap.size, 5, none⟩ = some (.int .u64 99) := HL.out.c.cell 5
 go_wp2_with (first
  | (go_at_call 16
     refine (sexists_any live17c [live17p] [live17a, live17d] _ 1 1 _ 2 _ HL.out.progs HRx.out live17_ins HRecs3.out live17_right).mono ?_
     rintro e W14 ⟨rfl, hb14⟩
     rw [live17_no]
     have HSt := Lib.hid (HSt.out.more (bk_grown_below hb14))
     have HB := Lib.hid (HB.out.trans (hb14.mono HB.out.size))
     clear hb14)
  | (go_at_call 17
     refine (root_at _ _ _ _ live17s 0 _ HSt.out).mono ?_
     rintro e W15 ⟨rfl, hw15⟩
     rw [live17_root, ← hw15]
     clear hw15))
 go_ret
 exact ⟨rfl, HB.out⟩
end Go.Proofs.Ytjggmimaolddkaa
namespace Go.Proofs.Ytjggmimaolddkaa
open Go.ChangeShapes Go.WideShapes Go.RowKit Go.Deep
set_option linter.unusedVariables false
section
variable {H : Type} {enc : TypeId × Value → H} {P : Program} {w : World} {base : Nat} {spare : Nat → Bool} {held : Bool}
theorem flat_at {α : Type} (cells : α → List Value) {size : Nat} (hc : ∀ y, (cells y).length = size) (hs : 0 < size) : ∀ (l : List α) (j : Nat) (u : Value), (l.flatMap cells)[j]? = some u → ∃ i y, l[i]? = some y ∧ j = i * size + j % size ∧ (cells y)[j % size]? = some u
 | [], j, u, h => by simp at h
 | y :: l, j, u, h => by
   rw [List.flatMap_cons] at h
   by_cases hj : j < size
   ·rw [List.getElem?_append_left (by rw [hc]; exact hj)] at h
    exact ⟨0, y, rfl, by rw [Nat.mod_eq_of_lt hj]; omega, by rw [Nat.mod_eq_of_lt hj]; exact h⟩
   ·rw [List.getElem?_append_right (by rw [hc]; omega), hc] at h
    obtain ⟨i, z, hz, he, hu⟩ := flat_at cells hc hs l (j - size) u h
    have hm : (j - size) % size = j % size := by rw [← Nat.add_mod_right, Nat.sub_add_cancel (by omega)]
    rw [hm] at he hu
    exact ⟨i + 1, z, by simpa using hz, by rw [Nat.add_mul]; omega, hu⟩
theorem flat_len {α : Type} (cells : α → List Value) {size : Nat} (hc : ∀ y, (cells y).length = size) (l : List α) : (l.flatMap cells).length = l.length * size := by
 induction l with
 | nil => simp
 | cons y l ih => rw [List.flatMap_cons, List.length_append, hc, ih, List.length_cons, Nat.add_mul]; omega
theorem list_of {α : Type} (Q : Nat → α → Prop) : ∀ n : Nat, (∀ i, i < n → ∃ y, Q i y) → ∃ l : List α, l.length = n ∧ ∀ i y, l[i]? = some y → Q i y
 | 0, _ => ⟨[], rfl, fun i y h => by simp at h⟩
 | n + 1, h => by
   obtain ⟨l, hl, hq⟩ := list_of Q n (fun i hi => h i (by omega))
   obtain ⟨y, hy⟩ := h n (by omega)
   refine ⟨l ++ [y], by simp [hl], fun i z hz => ?_⟩
   by_cases hi : i < n
   ·rw [List.getElem?_append_left (by omega)] at hz
    exact hq i z hz
   ·rw [List.getElem?_append_right (by omega)] at hz
    have h0 : i - l.length = 0 := by
     rcases Nat.eq_zero_or_pos (i - l.length) with h | h
     ·exact h
     ·rw [List.getElem?_eq_none (by simp; omega)] at hz; cases hz
    rw [h0] at hz
    obtain rfl : y = z := by simpa using hz
    obtain rfl : i = n := by omega
    exact hy
theorem read_slice {α : Type} (cells : α → List Value) (good : α → Prop) {size : Nat} (hcs : ∀ y, (cells y).length = size) (hs : 0 < size) {r : Reach} {b0 : Nat} {t e : TypeId} {v : Value} {d : DataW H} {p : List MemPlace}
 (ht : P.underlying t = some (.slice e)) (hC : P.cellsOf e = size) (hel : ∀ n cs x, DataW.trod enc P w base spare held n e cs = some x → ∃ y, cs = cells y ∧ good y)
 (hval : Value.okWide P w r b0 t v) (h : DataW.Trod enc P w base spare held t v d p) :
 ∃ A n c, ∃ l : List α, v = .slice A n c ∧ Rd w w.heap.size size A n (l.flatMap cells) ∧ l.length = n ∧ (∀ y ∈ l, good y) ∧ n ≤ c := by
 obtain ⟨A, n, c, rfl⟩ := okWide_slice ht hval
 obtain ⟨fuel, hf⟩ := h
 rcases Deep.open_slice ht hf with ⟨hv, _⟩ | ⟨a, len, cap, m, q, D, Pl, hv, hb, hl, hm, hmm, hx, hi⟩
 ·simp [Value.cells] at hv
  obtain ⟨rfl, rfl, rfl⟩ := hv
  exact ⟨none, 0, 0, [], rfl, Rd.nil _ _ _ _, rfl, fun y hy => by simp at hy, Nat.le_refl _⟩
 ·simp [Value.cells] at hv
  obtain ⟨rfl, rfl, rfl⟩ := hv
  have hle : n ≤ m := by rw [hmm]; split <;> omega
  have hQ : ∀ i, i < n → ∃ y : α, good y ∧ ∀ j u, (cells y)[j]? = some u → w.cell? (a.add (i * size + j)) = some u := by
   intro i hin
   obtain ⟨cs', hc, htr⟩ := hi i (by omega)
   obtain ⟨y, rfl, hg⟩ := hel _ _ _ htr
   rw [hC] at hc
   obtain ⟨_, hcl, hat⟩ := World.cells?_some hc
   refine ⟨y, hg, fun j u hu => ?_⟩
   have hj : j < size := by rw [← hcs y]; exact (List.getElem?_eq_some_iff.1 hu).1
   have := hat j hj
   rw [hu] at this
   rw [← Deep.add_add]
   exact this
  obtain ⟨l, hll, hlq⟩ := list_of _ n hQ
  refine ⟨_, n, c, l, rfl, ⟨by rw [flat_len cells hcs, hll], by omega, fun hn => ?_⟩, hll, fun y hy => ?_, hl⟩
  ·obtain ⟨y0, hy0⟩ : ∃ y, l[0]? = some y := ⟨l[0]'(by omega), List.getElem?_eq_getElem _⟩
   obtain ⟨u0, hu0⟩ : ∃ u, (cells y0)[0]? = some u := ⟨(cells y0)[0]'(by rw [hcs]; omega), List.getElem?_eq_getElem _⟩
   have h0 := (hlq 0 y0 hy0).2 0 u0 hu0
   have hsp : a.spot = none := by simpa [Addr.add] using World.cell?_spot h0
   obtain ⟨b, o, sp⟩ := a
   subst hsp
   have hblk := World.block_lt_of_cell? w _ h0
   refine ⟨b, o, rfl, by simpa [Addr.add] using hblk, fun j u hu => ?_⟩
   obtain ⟨i, y, hy, hj, hu'⟩ := flat_at cells hcs hs l j u hu
   have := (hlq i y hy).2 (j % size) u hu'
   rw [← hj] at this
   unfold Addr.add at this
   split at this
   ·rename_i h0; rw [h0]; exact this
   ·exact this
  ·obtain ⟨i, hi', he⟩ := List.getElem_of_mem hy
   exact (hlq i y (by rw [List.getElem?_eq_getElem hi', he])).1
theorem wf_i64 {n : Int} (h : (Lit.int .i64 n).wf = true) : -9223372036854775808 ≤ n ∧ n ≤ 9223372036854775807 := by
 simpa [Lit.wf, IntKind.min, IntKind.max, IntKind.signed, IntKind.bits] using h
theorem wf_u64 {n : Int} (h : (Lit.int .u64 n).wf = true) : 0 ≤ n ∧ n ≤ 18446744073709551615 := by
 simpa [Lit.wf, IntKind.min, IntKind.max, IntKind.signed, IntKind.bits] using h
theorem trod_ins {n : Nat} {t t0 t1 t2 t3 t4 : TypeId} {f0 f1 f2 f3 f4 : Field} {cs : List Value} {x : DataW H × List MemPlace} (hs : P.underlying t = some (.struct #[f0, f1, f2, f3, f4])) (hone : oneCellFields P #[f0, f1, f2, f3, f4] = true) (hC : P.cellsOf t = 5)
 (h0 : P.underlying f0.type = some (.int .i64)) (h1 : P.underlying f1.type = some (.int .i64)) (h2 : P.underlying f2.type = some (.int .i64)) (h3 : P.underlying f3.type = some (.int .i64)) (h4 : P.underlying f4.type = some (.int .u64))
 (h : DataW.trod enc P w base spare held n t cs = some x) : ∃ i : Ins, cs = i.cells ∧ i.Ok := by
 obtain ⟨xs, n', _, hx, hl, hlen, hg⟩ := DataW.trod_struct hs h
 rw [hC] at hl
 obtain ⟨o0, k0⟩ := hone_of hone 0 f0 rfl
 obtain ⟨o1, k1⟩ := hone_of hone 1 f1 rfl
 obtain ⟨o2, k2⟩ := hone_of hone 2 f2 rfl
 obtain ⟨o3, k3⟩ := hone_of hone 3 f3 rfl
 obtain ⟨o4, k4⟩ := hone_of hone 4 f4 rfl
 match cs, hl, xs, hlen with
 | [c0, c1, c2, c3, c4], _, [y0, y1, y2, y3, y4], _ =>
   have g0 : DataW.trod enc P w base spare held n' f0.type [c0] = some y0 := by simpa [o0, k0] using hg 0 f0 rfl
   have g1 : DataW.trod enc P w base spare held n' f1.type [c1] = some y1 := by simpa [o1, k1] using hg 1 f1 rfl
   have g2 : DataW.trod enc P w base spare held n' f2.type [c2] = some y2 := by simpa [o2, k2] using hg 2 f2 rfl
   have g3 : DataW.trod enc P w base spare held n' f3.type [c3] = some y3 := by simpa [o3, k3] using hg 3 f3 rfl
   have g4 : DataW.trod enc P w base spare held n' f4.type [c4] = some y4 := by simpa [o4, k4] using hg 4 f4 rfl
   obtain ⟨z0, e0, _, w0⟩ := DataW.trod_int h0 g0
   obtain ⟨z1, e1, _, w1⟩ := DataW.trod_int h1 g1
   obtain ⟨z2, e2, _, w2⟩ := DataW.trod_int h2 g2
   obtain ⟨z3, e3, _, w3⟩ := DataW.trod_int h3 g3
   obtain ⟨z4, e4, _, w4⟩ := DataW.trod_int h4 g4
   simp only [List.cons.injEq, and_true] at e0 e1 e2 e3 e4
   subst e0; subst e1; subst e2; subst e3; subst e4
   exact ⟨⟨z0, z1, z2, z3, z4⟩, rfl, wf_i64 w0, wf_i64 w1, wf_i64 w2, wf_i64 w3, wf_u64 w4⟩
end
end Go.Proofs.Ytjggmimaolddkaa
