import Derived.Test.YtjggmimaolddkaaOrAF
import Derived.Deep.Cut
namespace Go.Proofs.Ytjggmimaolddkaa
open Go.RowKit
set_option linter.unusedVariables false
def DoPost2 (B NB g : Nat) (args : List Int) (maxw : Int) (p : Int × MRun) (w : World) (e : Ending) (w' : World) : Prop :=
 e = .returned (.int .i64 p.1) ∧ RunAt w' B (NB + 1) g args maxw p.2 ∧ Below B w w'
theorem RunIn.wide {w : World} {B NB NB' g : Nat} {args : List Int} {maxw : Int} {r : MRun} {sb mb n : Nat} {pA : Option Addr} {pc_ : Nat} {nv : Value} (h : RunIn w B NB g args maxw r sb mb n pA pc_ nv) (hn : NB ≤ NB') : RunIn w B NB' g args maxw r sb mb n pA pc_ nv :=
 ⟨h.bk, h.st, h.map, Nat.le_trans h.nb hn, h.news, h.pick, h.pcap, h.bg, h.bs, h.bm, h.roots⟩
theorem RunIn.other {w w' : World} {B NB g : Nat} {args : List Int} {maxw : Int} {r : MRun} {sb mb n : Nat} {pA : Option Addr} {pc_ : Nat} {nv : Value} (h : RunIn w B NB g args maxw r sb mb n pA pc_ nv) {k : Nat} (hg : w.grownBy w' (some k)) (h1 : k ≠ g) (h2 : k ≠ sb) (h3 : k ≠ mb) (h4 : nv.ownBlock ≠ some k) (hB : B ≤ k) : RunIn w' B NB g args maxw r sb mb n pA pc_ nv :=
 ⟨h.bk.grown hg (by simpa using h1), Bk.grown h.st hg (by simpa using h2), h.map.kept hg (by simpa using fun e => h3 e.symm), h.nb, h.news.kept hg (by
  cases hv : nv.ownBlock with
  | none => exact .inl rfl
  | some b => exact .inr (by rw [← hv]; exact h4)), h.pick.below ((Below.refl _ _).grown hg h.pos (fun j hj => by cases hj; exact hB)), h.pcap, h.bg, h.bs, h.bm, h.roots⟩
theorem RunIn.maps {w w' : World} {B NB NB' g : Nat} {args : List Int} {maxw : Int} {r : MRun} {sb mb n n' : Nat} {pA : Option Addr} {pc_ : Nat} {nv : Value} (h : RunIn w B NB g args maxw r sb mb n pA pc_ nv) {f : Int → Option (List Int)} (hg : w.grownBy w' (some mb)) (ho : OwnB w' Try.prog 31 mb n' f) (hn : n' + r.pick.length ≤ NB') :
 RunIn w' B NB' g args maxw { r with st := { r.st with blocks := f } } sb mb n' pA pc_ nv := by
 obtain ⟨n1, n2, n3, n4, n5, n6⟩ := h.ne
 exact ⟨h.bk.grown hg (by simpa using fun e => n2 e.symm), Bk.grown h.st hg (by simpa using fun e => n3 e.symm), ho, hn, h.news.kept hg (by
  cases hv : nv.ownBlock with
  | none => exact .inl rfl
  | some b => exact .inr (by rw [← hv]; exact fun e => n6 e.symm)), h.pick.below ((Below.refl _ _).grown hg h.pos (fun j hj => by cases hj; exact h.bm)), h.pcap, h.bg, h.bs, h.bm, h.roots⟩
theorem DoPost2.mk {B NB g : Nat} {args : List Int} {maxw x : Int} {r' : MRun} {w w' : World} {e : Ending} {sb mb n : Nat} {pA : Option Addr} {pc_ : Nat} {nv : Value} (he : e = .returned (.int .i64 x)) (h : RunIn w' B NB g args maxw r' sb mb n pA pc_ nv) (hb : Below B w w') : DoPost2 B NB g args maxw (x, r') w e w' :=
 ⟨he, ⟨_, _, _, _, _, _, h.wide (Nat.le_succ _)⟩, hb⟩
theorem zero_blk (w : World) : (zeroValue 91).run Try.prog w = .ok (blkV zero8) w := by kernel_rfl
theorem eight {l : List Int} (h : l.length = 8) : ∃ x0 x1 x2 x3 x4 x5 x6 x7, l = [x0, x1, x2, x3, x4, x5, x6, x7] := by
 match l, h with
 | [x0, x1, x2, x3, x4, x5, x6, x7], _ => exact ⟨x0, x1, x2, x3, x4, x5, x6, x7, rfl⟩
set_option maxRecDepth 100000 in
set_option maxHeartbeats 8000000 in
theorem word_11 (B NB g : Nat) (args : List Int) (maxw : Int) (a b c : Nat) (imm : Int) (r : MRun) (sb mb n : Nat) (pA : Option Addr) (pc_ : Nat) (nv : Value) (w : World) (h : RunIn w B NB g args maxw r sb mb n pA pc_ nv) (hok : ROk maxw r) (ha16 : a < 16) (hb16 : b < 16) (hc16 : c < 16) (him : U64 imm) (hNB : NB < 1000000000000) :
 Calls Try.prog 53 #[.pointer (some ⟨g, 0, none⟩), .agg #[.int .i64 11, .int .i64 a, .int .i64 b, .int .i64 c, .int .u64 imm]] w (DoPost2 B NB g args maxw (wordP maxw ⟨11, a, b, c, imm⟩ r) w) := by
 obtain ⟨W1, hW1⟩ : ∃ W1, w.alloc (.cells #[.int .i64 11, .int .i64 a, .int .i64 b, .int .i64 c, .int .u64 imm] 62) = W1 := ⟨_, rfl⟩
 have HG1 : Hid (w.grownBy W1 none) := by show World.grownBy _ _ _; rw [← hW1]; exact World.grownBy_alloc _ _ _
 have hI : Bk W1 w.heap.size 62 #[.int .i64 11, .int .i64 a, .int .i64 b, .int .i64 c, .int .u64 imm] := by rw [← hW1]; exact Bk.new w _ _
 have HP := Lib.hid h.pos
 have HNg : Hid (g ≠ w.heap.size) := fun e => by have := h.lt.1; omega
 have HR := Lib.hid (h.more HG1.out)
 have HI := Lib.hid hI
 have HW1 := Lib.hid hW1
 have HK := Lib.hid hok
 have q0 : W1.cell? ⟨w.heap.size, 0, none⟩ = some (.int .i64 11) := (hI.cell 0).trans rfl
 have q1 : W1.cell? ⟨w.heap.size, 1, none⟩ = some (.int .i64 a) := (hI.cell 1).trans rfl
 have q2 : W1.cell? ⟨w.heap.size, 2, none⟩ = some (.int .i64 b) := (hI.cell 2).trans rfl
 have q3 : W1.cell? ⟨w.heap.size, 3, none⟩ = some (.int .i64 c) := (hI.cell 3).trans rfl
 have q4 : W1.cell? ⟨w.heap.size, 4, none⟩ = some (.int .u64 imm) := (hI.cell 4).trans rfl
 obtain ⟨X, hX⟩ : ∃ X, r.regs.getD b 0 = X := ⟨_, rfl⟩
 obtain ⟨Y, hY⟩ : ∃ Y, r.regs.getD a 0 = Y := ⟨_, rfl⟩
 obtain ⟨Z, hZ⟩ : ∃ Z, r.regs.getD c 0 = Z := ⟨_, rfl⟩
 have HUX : Hid (U64 X) := by show U64 X; rw [← hX]; exact getD_u64 hok.regs b
 have HUZ : Hid (U64 Z) := by show U64 Z; rw [← hZ]; exact getD_u64 hok.regs c
 have HUI := Lib.hid him
 have kX : W1.cell? ⟨g, 5 + b, none⟩ = some (.int .u64 X) := by rw [← hX]; exact HR.out.bk.reg hb16
 have kZ : W1.cell? ⟨g, 5 + c, none⟩ = some (.int .u64 Z) := by rw [← hZ]; exact HR.out.bk.reg hc16
 have HX : Hid (r.reg (b : Int) = X) := hX
 have HY : Hid (r.reg (a : Int) = Y) := hY
 have HZ : Hid (r.reg (c : Int) = Z) := hZ
 have HWd : Hid (wordAt ⟨11, a, b, c, imm⟩ r = imm) := by show _ = _; rfl
 have ai : (a : Int) < 16 := by omega
 have bi : (b : Int) < 16 := by omega
 have ci : (c : Int) < 16 := by omega
 clear hW1 hI hX hY hZ h hok him
 go_enter Try.func53, Try.ntmps53
 go_wp2_with fail
 rw [HW1.out]
 go_quiet (fail)
 generalize hW2 : World.drewN _ _ = W2
 have HG2 : Hid (W1.grownBy W2 none) := by show World.grownBy _ _ _; rw [← hW2]; exact grown_drewN _ _ _
 clear hW2 kX kZ q0 q1 q2 q3 q4
 have HR2 := Lib.hid (HR.out.more HG2.out)
 have HGw := Lib.hid (HG1.out.trans HG2.out)
 have hI2 := HI.out.grown HG2.out (by simp)
 have q0 : W2.cell? ⟨w.heap.size, 0, none⟩ = some (.int .i64 11) := (hI2.cell 0).trans rfl
 have q1 : W2.cell? ⟨w.heap.size, 1, none⟩ = some (.int .i64 a) := (hI2.cell 1).trans rfl
 have kS : W2.cell? ⟨g, 0, none⟩ = some (.pointer (some ⟨sb, 0, none⟩)) := (HR2.out.bk.bk.cell 0).trans rfl
 have kM : W2.cell? ⟨sb, 16, none⟩ = some (.map (some mb)) := HR2.out.st.map HR2.out.roots
 have kY : W2.cell? ⟨g, 5 + a, none⟩ = some (.int .u64 Y) := by rw [← HY.out]; exact HR2.out.bk.reg ha16
 have fA := HR2.out.bk.bk.frozen (5 + a)
 have hlk := HR2.out.map.look (t := 96) (e := 91) Try.underlying31 Try.underlying96 (zero_blk _) HUX.out
 have HI2 := Lib.hid hI2
 clear hI2
 cases hf : r.st.blocks X with
 | none =>
   rw [hf] at hlk
   simp only [Option.getD_none, Option.isSome_none, blkV, zero8, List.map_cons, List.map_nil] at hlk
   have HE : Hid (wordP maxw ⟨11, a, b, c, imm⟩ r = (44, r)) := by
    show _ = _
    rw [wordP, HX.out, hf]
   clear hf
   go_wp2
   go_ret
   rw [HE.out]
   exact DoPost2.mk rfl (HR2.out.more (World.grownBy_alloc _ _ _)) ((Below.refl _ _).grown (HGw.out.trans (World.grownBy_alloc _ _ none)) HP.out (by simp))
 | some ws =>
   rw [hf] at hlk
   have h8 := HR2.out.map.words HUX.out hf
   obtain ⟨x0, x1, x2, x3, x4, x5, x6, x7, hws⟩ := eight h8
   subst hws
   simp only [Option.getD_some, Option.isSome_some, blkV, List.map_cons, List.map_nil] at hlk
   have HF := Lib.hid hf
   clear hf
   by_cases hv : 8 ≤ imm
   ·have hd : decide (imm ≥ 8) = true := decide_eq_true hv
    have HE : Hid (wordP maxw ⟨11, a, b, c, imm⟩ r = (44, r)) := by
     show _ = _
     rw [wordP, HX.out, HF.out]
     simp only [HWd.out, if_pos hv]
    go_wp2
    go_ret
    rw [HE.out]
    exact DoPost2.mk rfl (HR2.out.more (World.grownBy_alloc _ _ _)) ((Below.refl _ _).grown (HGw.out.trans (World.grownBy_alloc _ _ none)) HP.out (by simp))
   ·have hd : decide (imm ≥ 8) = false := decide_eq_false hv
    obtain ⟨v, rfl⟩ : ∃ v : Nat, imm = (v : Int) := ⟨imm.toNat, by have := HUI.out.1; omega⟩
    have hv8 : v < 8 := by omega
    obtain ⟨W3, hW3⟩ : ∃ W3, W2.alloc (.cells #[.int .u64 x0, .int .u64 x1, .int .u64 x2, .int .u64 x3, .int .u64 x4, .int .u64 x5, .int .u64 x6, .int .u64 x7] 91) = W3 := ⟨_, rfl⟩
    have HG3 : Hid (W2.grownBy W3 none) := by show World.grownBy _ _ _; rw [← hW3]; exact World.grownBy_alloc _ _ _
    have HBx : Hid (Bk W3 W2.heap.size 91 (u64s [x0, x1, x2, x3, x4, x5, x6, x7]).toArray) := by rw [← hW3]; exact Bk.new _ _ _
    have HR3 := Lib.hid (HR2.out.more HG3.out)
    have HI3 := Lib.hid (HI2.out.grown HG3.out (by simp))
    have HGv := Lib.hid (HGw.out.trans HG3.out)
    have HW3 := Lib.hid hW3
    clear hW3
    obtain ⟨S, hS⟩ : ∃ S, ([x0, x1, x2, x3, x4, x5, x6, x7] : List Int).getD v 0 = S := ⟨_, rfl⟩
    have HE : Hid (wordP maxw ⟨11, a, b, c, (v : Int)⟩ r = (0, r.put a S)) := by
     show _ = _
     rw [wordP, HX.out, HF.out]
     simp only [HWd.out, if_neg (show ¬ (8 : Int) ≤ (v : Int) by omega)]
     rw [if_pos (by simp), ← hS]; rfl
    go_upto_region 5 with fail
    rw [HW3.out]
    have p0 : W3.cell? ⟨w.heap.size, 0, none⟩ = some (.int .i64 11) := (HI3.out.cell 0).trans rfl
    have p1 : W3.cell? ⟨w.heap.size, 1, none⟩ = some (.int .i64 a) := (HI3.out.cell 1).trans rfl
    have pS : W3.cell? ⟨W2.heap.size, v, none⟩ = some (.int .u64 S) := by rw [HBx.out.cell, ← hS]; exact u64s_get hv8
    have pA_ : W3.cell? ⟨g, 5 + a, none⟩ = some (.int .u64 Y) := by rw [← HY.out]; exact HR3.out.bk.reg ha16
    have fA3 := HR3.out.bk.bk.frozen (5 + a)
    clear hS kS kM kY fA q0 q1 hlk
    go_wp2_with fail
    go_still_tail 9, (by kernel_rfl)
    go_wp2
    go_ret
    rw [HE.out]
    have hset := HR3.out.bk.setAny (RC.set_reg HR3.out.bk.2.1 (by rw [HR3.out.bk.2.2]; exact ha16) S) HR3.out.bk.2.1 (by simpa using HR3.out.bk.2.2)
    exact DoPost2.mk rfl (HR3.out.self (r' := r.put a S) ((grown_set _ _ _ _).trans (grown_drew _ _)) hset.drew rfl rfl rfl) ((Below.refl _ _).grown (row := some g) (((HGv.out.but _).trans (grown_set _ _ _ _)).trans (grown_drew _ _)) HP.out (fun k hk => by cases hk; exact HR3.out.bg))
set_option maxRecDepth 100000 in
set_option maxHeartbeats 8000000 in
theorem word_12 (B NB g : Nat) (args : List Int) (maxw : Int) (a b c : Nat) (imm : Int) (r : MRun) (sb mb n : Nat) (pA : Option Addr) (pc_ : Nat) (nv : Value) (w : World) (h : RunIn w B NB g args maxw r sb mb n pA pc_ nv) (hok : ROk maxw r) (ha16 : a < 16) (hb16 : b < 16) (hc16 : c < 16) (him : U64 imm) (hNB : NB < 1000000000000) :
 Calls Try.prog 53 #[.pointer (some ⟨g, 0, none⟩), .agg #[.int .i64 12, .int .i64 a, .int .i64 b, .int .i64 c, .int .u64 imm]] w (DoPost2 B NB g args maxw (wordP maxw ⟨12, a, b, c, imm⟩ r) w) := by
 obtain ⟨W1, hW1⟩ : ∃ W1, w.alloc (.cells #[.int .i64 12, .int .i64 a, .int .i64 b, .int .i64 c, .int .u64 imm] 62) = W1 := ⟨_, rfl⟩
 have HG1 : Hid (w.grownBy W1 none) := by show World.grownBy _ _ _; rw [← hW1]; exact World.grownBy_alloc _ _ _
 have hI : Bk W1 w.heap.size 62 #[.int .i64 12, .int .i64 a, .int .i64 b, .int .i64 c, .int .u64 imm] := by rw [← hW1]; exact Bk.new w _ _
 have HP := Lib.hid h.pos
 have HNg : Hid (g ≠ w.heap.size) := fun e => by have := h.lt.1; omega
 have HR := Lib.hid (h.more HG1.out)
 have HI := Lib.hid hI
 have HW1 := Lib.hid hW1
 have HK := Lib.hid hok
 have q0 : W1.cell? ⟨w.heap.size, 0, none⟩ = some (.int .i64 12) := (hI.cell 0).trans rfl
 have q1 : W1.cell? ⟨w.heap.size, 1, none⟩ = some (.int .i64 a) := (hI.cell 1).trans rfl
 have q2 : W1.cell? ⟨w.heap.size, 2, none⟩ = some (.int .i64 b) := (hI.cell 2).trans rfl
 have q3 : W1.cell? ⟨w.heap.size, 3, none⟩ = some (.int .i64 c) := (hI.cell 3).trans rfl
 have q4 : W1.cell? ⟨w.heap.size, 4, none⟩ = some (.int .u64 imm) := (hI.cell 4).trans rfl
 obtain ⟨X, hX⟩ : ∃ X, r.regs.getD b 0 = X := ⟨_, rfl⟩
 obtain ⟨Y, hY⟩ : ∃ Y, r.regs.getD a 0 = Y := ⟨_, rfl⟩
 obtain ⟨Z, hZ⟩ : ∃ Z, r.regs.getD c 0 = Z := ⟨_, rfl⟩
 have HUX : Hid (U64 X) := by show U64 X; rw [← hX]; exact getD_u64 hok.regs b
 have HUZ : Hid (U64 Z) := by show U64 Z; rw [← hZ]; exact getD_u64 hok.regs c
 have HUI := Lib.hid him
 have kX : W1.cell? ⟨g, 5 + b, none⟩ = some (.int .u64 X) := by rw [← hX]; exact HR.out.bk.reg hb16
 have kZ : W1.cell? ⟨g, 5 + c, none⟩ = some (.int .u64 Z) := by rw [← hZ]; exact HR.out.bk.reg hc16
 have HX : Hid (r.reg (b : Int) = X) := hX
 have HY : Hid (r.reg (a : Int) = Y) := hY
 have HZ : Hid (r.reg (c : Int) = Z) := hZ
 have HWd : Hid (wordAt ⟨12, a, b, c, imm⟩ r = Z) := by show _ = _; exact hZ
 have ai : (a : Int) < 16 := by omega
 have bi : (b : Int) < 16 := by omega
 have ci : (c : Int) < 16 := by omega
 clear hW1 hI hX hY hZ h hok him
 go_enter Try.func53, Try.ntmps53
 go_wp2_with fail
 rw [HW1.out]
 go_quiet (fail)
 go_wp2_with fail
 go_quiet (fail)
 generalize hW2 : World.drewN _ _ = W2
 have HG2 : Hid (W1.grownBy W2 none) := by show World.grownBy _ _ _; rw [← hW2]; exact (grown_drewN _ _ _).trans (grown_drewN _ _ _)
 clear hW2 kX kZ q0 q1 q2 q3 q4
 have HR2 := Lib.hid (HR.out.more HG2.out)
 have HGw := Lib.hid (HG1.out.trans HG2.out)
 have hI2 := HI.out.grown HG2.out (by simp)
 have q0 : W2.cell? ⟨w.heap.size, 0, none⟩ = some (.int .i64 12) := (hI2.cell 0).trans rfl
 have q1 : W2.cell? ⟨w.heap.size, 1, none⟩ = some (.int .i64 a) := (hI2.cell 1).trans rfl
 have kS : W2.cell? ⟨g, 0, none⟩ = some (.pointer (some ⟨sb, 0, none⟩)) := (HR2.out.bk.bk.cell 0).trans rfl
 have kM : W2.cell? ⟨sb, 16, none⟩ = some (.map (some mb)) := HR2.out.st.map HR2.out.roots
 have kY : W2.cell? ⟨g, 5 + a, none⟩ = some (.int .u64 Y) := by rw [← HY.out]; exact HR2.out.bk.reg ha16
 have fA := HR2.out.bk.bk.frozen (5 + a)
 have hlk := HR2.out.map.look (t := 96) (e := 91) Try.underlying31 Try.underlying96 (zero_blk _) HUX.out
 have HI2 := Lib.hid hI2
 clear hI2
 cases hf : r.st.blocks X with
 | none =>
   rw [hf] at hlk
   simp only [Option.getD_none, Option.isSome_none, blkV, zero8, List.map_cons, List.map_nil] at hlk
   have HE : Hid (wordP maxw ⟨12, a, b, c, imm⟩ r = (44, r)) := by
    show _ = _
    rw [wordP, HX.out, hf]
   clear hf
   go_wp2
   go_ret
   rw [HE.out]
   exact DoPost2.mk rfl (HR2.out.more (World.grownBy_alloc _ _ _)) ((Below.refl _ _).grown (HGw.out.trans (World.grownBy_alloc _ _ none)) HP.out (by simp))
 | some ws =>
   rw [hf] at hlk
   have h8 := HR2.out.map.words HUX.out hf
   obtain ⟨x0, x1, x2, x3, x4, x5, x6, x7, hws⟩ := eight h8
   subst hws
   simp only [Option.getD_some, Option.isSome_some, blkV, List.map_cons, List.map_nil] at hlk
   have HF := Lib.hid hf
   clear hf
   by_cases hv : 8 ≤ Z
   ·have hd : decide (Z ≥ 8) = true := decide_eq_true hv
    have HE : Hid (wordP maxw ⟨12, a, b, c, imm⟩ r = (44, r)) := by
     show _ = _
     rw [wordP, HX.out, HF.out]
     simp only [HWd.out, if_pos hv]
    go_wp2
    go_ret
    rw [HE.out]
    exact DoPost2.mk rfl (HR2.out.more (World.grownBy_alloc _ _ _)) ((Below.refl _ _).grown (HGw.out.trans (World.grownBy_alloc _ _ none)) HP.out (by simp))
   ·have hd : decide (Z ≥ 8) = false := decide_eq_false hv
    obtain ⟨v, rfl⟩ : ∃ v : Nat, Z = (v : Int) := ⟨Z.toNat, by have := HUZ.out.1; omega⟩
    have hv8 : v < 8 := by omega
    obtain ⟨W3, hW3⟩ : ∃ W3, W2.alloc (.cells #[.int .u64 x0, .int .u64 x1, .int .u64 x2, .int .u64 x3, .int .u64 x4, .int .u64 x5, .int .u64 x6, .int .u64 x7] 91) = W3 := ⟨_, rfl⟩
    have HG3 : Hid (W2.grownBy W3 none) := by show World.grownBy _ _ _; rw [← hW3]; exact World.grownBy_alloc _ _ _
    have HBx : Hid (Bk W3 W2.heap.size 91 (u64s [x0, x1, x2, x3, x4, x5, x6, x7]).toArray) := by rw [← hW3]; exact Bk.new _ _ _
    have HR3 := Lib.hid (HR2.out.more HG3.out)
    have HI3 := Lib.hid (HI2.out.grown HG3.out (by simp))
    have HGv := Lib.hid (HGw.out.trans HG3.out)
    have HW3 := Lib.hid hW3
    clear hW3
    obtain ⟨S, hS⟩ : ∃ S, ([x0, x1, x2, x3, x4, x5, x6, x7] : List Int).getD v 0 = S := ⟨_, rfl⟩
    have HE : Hid (wordP maxw ⟨12, a, b, c, imm⟩ r = (0, r.put a S)) := by
     show _ = _
     rw [wordP, HX.out, HF.out]
     simp only [HWd.out, if_neg (show ¬ (8 : Int) ≤ (v : Int) by omega)]
     rw [if_pos (by simp), ← hS]; rfl
    go_upto_region 5 with fail
    rw [HW3.out]
    have p0 : W3.cell? ⟨w.heap.size, 0, none⟩ = some (.int .i64 12) := (HI3.out.cell 0).trans rfl
    have p1 : W3.cell? ⟨w.heap.size, 1, none⟩ = some (.int .i64 a) := (HI3.out.cell 1).trans rfl
    have pS : W3.cell? ⟨W2.heap.size, v, none⟩ = some (.int .u64 S) := by rw [HBx.out.cell, ← hS]; exact u64s_get hv8
    have pA_ : W3.cell? ⟨g, 5 + a, none⟩ = some (.int .u64 Y) := by rw [← HY.out]; exact HR3.out.bk.reg ha16
    have fA3 := HR3.out.bk.bk.frozen (5 + a)
    clear hS kS kM kY fA q0 q1 hlk
    go_wp2_with fail
    go_still_tail 9, (by kernel_rfl)
    go_wp2
    go_ret
    rw [HE.out]
    have hset := HR3.out.bk.setAny (RC.set_reg HR3.out.bk.2.1 (by rw [HR3.out.bk.2.2]; exact ha16) S) HR3.out.bk.2.1 (by simpa using HR3.out.bk.2.2)
    exact DoPost2.mk rfl (HR3.out.self (r' := r.put a S) ((grown_set _ _ _ _).trans (grown_drew _ _)) hset.drew rfl rfl rfl) ((Below.refl _ _).grown (row := some g) (((HGv.out.but _).trans (grown_set _ _ _ _)).trans (grown_drew _ _)) HP.out (fun k hk => by cases hk; exact HR3.out.bg))
set_option maxRecDepth 100000 in
set_option maxHeartbeats 8000000 in
theorem word_13 (B NB g : Nat) (args : List Int) (maxw : Int) (a b c : Nat) (imm : Int) (r : MRun) (sb mb n : Nat) (pA : Option Addr) (pc_ : Nat) (nv : Value) (w : World) (h : RunIn w B NB g args maxw r sb mb n pA pc_ nv) (hok : ROk maxw r) (ha16 : a < 16) (hb16 : b < 16) (hc16 : c < 16) (him : U64 imm) (hNB : NB < 1000000000000) :
 Calls Try.prog 53 #[.pointer (some ⟨g, 0, none⟩), .agg #[.int .i64 13, .int .i64 a, .int .i64 b, .int .i64 c, .int .u64 imm]] w (DoPost2 B NB g args maxw (wordP maxw ⟨13, a, b, c, imm⟩ r) w) := by
 obtain ⟨W1, hW1⟩ : ∃ W1, w.alloc (.cells #[.int .i64 13, .int .i64 a, .int .i64 b, .int .i64 c, .int .u64 imm] 62) = W1 := ⟨_, rfl⟩
 have HG1 : Hid (w.grownBy W1 none) := by show World.grownBy _ _ _; rw [← hW1]; exact World.grownBy_alloc _ _ _
 have hI : Bk W1 w.heap.size 62 #[.int .i64 13, .int .i64 a, .int .i64 b, .int .i64 c, .int .u64 imm] := by rw [← hW1]; exact Bk.new w _ _
 have HP := Lib.hid h.pos
 have HNg : Hid (g ≠ w.heap.size) := fun e => by have := h.lt.1; omega
 have HR := Lib.hid (h.more HG1.out)
 have HI := Lib.hid hI
 have HW1 := Lib.hid hW1
 have HK := Lib.hid hok
 have q0 : W1.cell? ⟨w.heap.size, 0, none⟩ = some (.int .i64 13) := (hI.cell 0).trans rfl
 have q1 : W1.cell? ⟨w.heap.size, 1, none⟩ = some (.int .i64 a) := (hI.cell 1).trans rfl
 have q2 : W1.cell? ⟨w.heap.size, 2, none⟩ = some (.int .i64 b) := (hI.cell 2).trans rfl
 have q3 : W1.cell? ⟨w.heap.size, 3, none⟩ = some (.int .i64 c) := (hI.cell 3).trans rfl
 have q4 : W1.cell? ⟨w.heap.size, 4, none⟩ = some (.int .u64 imm) := (hI.cell 4).trans rfl
 obtain ⟨X, hX⟩ : ∃ X, r.regs.getD b 0 = X := ⟨_, rfl⟩
 obtain ⟨Y, hY⟩ : ∃ Y, r.regs.getD a 0 = Y := ⟨_, rfl⟩
 obtain ⟨Z, hZ⟩ : ∃ Z, r.regs.getD c 0 = Z := ⟨_, rfl⟩
 have HUX : Hid (U64 X) := by show U64 X; rw [← hX]; exact getD_u64 hok.regs b
 have HUZ : Hid (U64 Z) := by show U64 Z; rw [← hZ]; exact getD_u64 hok.regs c
 have HUI := Lib.hid him
 have kX : W1.cell? ⟨g, 5 + b, none⟩ = some (.int .u64 X) := by rw [← hX]; exact HR.out.bk.reg hb16
 have kZ : W1.cell? ⟨g, 5 + c, none⟩ = some (.int .u64 Z) := by rw [← hZ]; exact HR.out.bk.reg hc16
 have HX : Hid (r.reg (b : Int) = X) := hX
 have HY : Hid (r.reg (a : Int) = Y) := hY
 have HZ : Hid (r.reg (c : Int) = Z) := hZ
 have HWd : Hid (wordAt ⟨13, a, b, c, imm⟩ r = imm) := by show _ = _; rfl
 have ai : (a : Int) < 16 := by omega
 have bi : (b : Int) < 16 := by omega
 have ci : (c : Int) < 16 := by omega
 clear hW1 hI hX hY hZ h hok him
 go_enter Try.func53, Try.ntmps53
 go_wp2_with fail
 rw [HW1.out]
 go_quiet (fail)
 generalize hW2 : World.drewN _ _ = W2
 have HG2 : Hid (W1.grownBy W2 none) := by show World.grownBy _ _ _; rw [← hW2]; exact grown_drewN _ _ _
 clear hW2 kX kZ q0 q1 q2 q3 q4
 have HR2 := Lib.hid (HR.out.more HG2.out)
 have HGw := Lib.hid (HG1.out.trans HG2.out)
 have hI2 := HI.out.grown HG2.out (by simp)
 have q0 : W2.cell? ⟨w.heap.size, 0, none⟩ = some (.int .i64 13) := (hI2.cell 0).trans rfl
 have q1 : W2.cell? ⟨w.heap.size, 1, none⟩ = some (.int .i64 a) := (hI2.cell 1).trans rfl
 have kS : W2.cell? ⟨g, 0, none⟩ = some (.pointer (some ⟨sb, 0, none⟩)) := (HR2.out.bk.bk.cell 0).trans rfl
 have kM : W2.cell? ⟨sb, 16, none⟩ = some (.map (some mb)) := HR2.out.st.map HR2.out.roots
 have kY : W2.cell? ⟨g, 5 + a, none⟩ = some (.int .u64 Y) := by rw [← HY.out]; exact HR2.out.bk.reg ha16
 have fA := HR2.out.bk.bk.frozen (5 + a)
 have hlk := HR2.out.map.look (t := 96) (e := 91) Try.underlying31 Try.underlying96 (zero_blk _) HUX.out
 have HI2 := Lib.hid hI2
 clear hI2
 cases hf : r.st.blocks X with
 | none =>
   rw [hf] at hlk
   simp only [Option.getD_none, Option.isSome_none, blkV, zero8, List.map_cons, List.map_nil] at hlk
   have HE : Hid (wordP maxw ⟨13, a, b, c, imm⟩ r = (44, r)) := by
    show _ = _
    rw [wordP, HX.out, hf]
   clear hf
   go_wp2
   go_ret
   rw [HE.out]
   exact DoPost2.mk rfl (HR2.out.more (World.grownBy_alloc _ _ _)) ((Below.refl _ _).grown (HGw.out.trans (World.grownBy_alloc _ _ none)) HP.out (by simp))
 | some ws =>
   rw [hf] at hlk
   have h8 := HR2.out.map.words HUX.out hf
   obtain ⟨x0, x1, x2, x3, x4, x5, x6, x7, hws⟩ := eight h8
   subst hws
   simp only [Option.getD_some, Option.isSome_some, blkV, List.map_cons, List.map_nil] at hlk
   have HF := Lib.hid hf
   clear hf
   by_cases hv : 8 ≤ imm
   ·have hd : decide (imm ≥ 8) = true := decide_eq_true hv
    have HE : Hid (wordP maxw ⟨13, a, b, c, imm⟩ r = (44, r)) := by
     show _ = _
     rw [wordP, HX.out, HF.out]
     simp only [HWd.out, if_pos hv]
    go_wp2
    go_ret
    rw [HE.out]
    exact DoPost2.mk rfl (HR2.out.more (World.grownBy_alloc _ _ _)) ((Below.refl _ _).grown (HGw.out.trans (World.grownBy_alloc _ _ none)) HP.out (by simp))
   ·have hd : decide (imm ≥ 8) = false := decide_eq_false hv
    obtain ⟨v, rfl⟩ : ∃ v : Nat, imm = (v : Int) := ⟨imm.toNat, by have := HUI.out.1; omega⟩
    have hv8 : v < 8 := by omega
    obtain ⟨W3, hW3⟩ : ∃ W3, W2.alloc (.cells #[.int .u64 x0, .int .u64 x1, .int .u64 x2, .int .u64 x3, .int .u64 x4, .int .u64 x5, .int .u64 x6, .int .u64 x7] 91) = W3 := ⟨_, rfl⟩
    have HG3 : Hid (W2.grownBy W3 none) := by show World.grownBy _ _ _; rw [← hW3]; exact World.grownBy_alloc _ _ _
    have HBx : Hid (Bk W3 W2.heap.size 91 (u64s [x0, x1, x2, x3, x4, x5, x6, x7]).toArray) := by rw [← hW3]; exact Bk.new _ _ _
    have HR3 := Lib.hid (HR2.out.more HG3.out)
    have HI3 := Lib.hid (HI2.out.grown HG3.out (by simp))
    have HGv := Lib.hid (HGw.out.trans HG3.out)
    have HW3 := Lib.hid hW3
    clear hW3
    go_upto_region 5 with fail
    rw [HW3.out]
    have hlt := HR2.out.lt
    have hB2 := HR2.out.pos
    have p0 : W3.cell? ⟨w.heap.size, 0, none⟩ = some (.int .i64 13) := (HI3.out.cell 0).trans rfl
    clear kS kM kY fA q0 q1 hlk
    go_wp2_with fail
    refine (payIn_any B NB g args maxw 13 r sb mb n pA pc_ nv _ HR3.out HK.out).mono ?_
    intro e W4 hp
    obtain ⟨hp | hp, hg⟩ := hp
    ·obtain ⟨hpay, rfl, hr4⟩ := hp
     have HE : Hid (wordP maxw ⟨13, a, b, c, (v : Int)⟩ r = (42, r)) := by
      show _ = _
      rw [wordP, HX.out, HF.out]
      simp only [HWd.out, if_neg (show ¬ (8 : Int) ≤ (v : Int) by omega)]
      rw [if_neg (by simp)]
      simp only [hpay]
     have HG4 : Hid (w.grownBy W4 (some g)) := (HGv.out.but _).trans hg
     have HR4 := Lib.hid hr4
     clear hg hr4 hpay
     go_wp2
     go_ret
     rw [HE.out]
     exact DoPost2.mk rfl HR4.out ((Below.refl _ _).grown HG4.out HP.out (fun k hk => by cases hk; exact HR4.out.bg))
    ·obtain ⟨r', hpay, es, er, en, ep, rfl, hr4⟩ := hp
     obtain ⟨y0, y1, y2, y3, y4, y5, y6, y7, hys⟩ := eight (l := ([x0, x1, x2, x3, x4, x5, x6, x7] : List Int).set v Y) (by simp)
     have HE : Hid (wordP maxw ⟨13, a, b, c, (v : Int)⟩ r = (0, { r' with st := { r.st with blocks := upd r.st.blocks X (some [y0, y1, y2, y3, y4, y5, y6, y7]) } })) := by
      show _ = _
      rw [wordP, HX.out, HF.out]
      simp only [HWd.out, if_neg (show ¬ (8 : Int) ≤ (v : Int) by omega)]
      rw [if_neg (by simp)]
      simp only [hpay, HY.out, Int.toNat_natCast, hys]
     have hR4 := HR3.out.lt
     have HR4 := Lib.hid hr4
     have HG4 : Hid (w.grownBy W4 (some g)) := (HGv.out.but _).trans hg
     have hI4 := HI3.out.grown hg (fun e => HNg.out (Option.some.inj e))
     have hB4 : Bk W4 W2.heap.size 91 (u64s [x0, x1, x2, x3, x4, x5, x6, x7]).toArray := HBx.out.grown hg (fun e => by have := Option.some.inj e; omega)
     have p1 : W4.cell? ⟨w.heap.size, 1, none⟩ = some (.int .i64 a) := (hI4.cell 1).trans rfl
     have pA_ : W4.cell? ⟨g, 5 + a, none⟩ = some (.int .u64 Y) := by
      have h := HR4.out.bk.reg ha16
      rw [h]; show some (Value.int .u64 (r'.regs.getD a 0)) = _
      rw [er]; exact congrArg (fun z => some (Value.int .u64 z)) HY.out
     have pV : W4.cell? ⟨W2.heap.size, v, none⟩ = some (.int .u64 (([x0, x1, x2, x3, x4, x5, x6, x7] : List Int).getD v 0)) := by rw [hB4.cell]; exact u64s_get hv8
     obtain ⟨S, hS⟩ : ∃ S, ([x0, x1, x2, x3, x4, x5, x6, x7] : List Int).getD v 0 = S := ⟨_, rfl⟩
     rw [hS] at pV
     have fV := hB4.frozen v
     have HS := Lib.hid es
     have HB4 := Lib.hid hB4
     have HYs := Lib.hid hys
     have Hlt := Lib.hid (And.intro hlt hB2)
     clear hS hpay hg hr4 hI4 hB4 hys es er p0 hlt hB2 hR4
     go_wp2_with fail
     go_still_tail 9, (by kernel_rfl)
     go_wp2_with fail
     generalize hW5 : World.drew _ = W5
     obtain ⟨W5, rfl⟩ : ∃ W, W = W5 := ⟨_, rfl⟩
     have HG5 : Hid (W4.grownBy W5 (some W2.heap.size)) := by show World.grownBy _ _ _; rw [← hW5]; exact (grown_set _ _ _ _).trans (grown_drew _ _)
     have hB5 : Bk W5 W2.heap.size 91 (u64s [y0, y1, y2, y3, y4, y5, y6, y7]).toArray := by
      rw [← hW5, ← HYs.out]
      have h := HB4.out.set_ v (.int .u64 Y)
      rw [List.setIfInBounds_toArray, ← List.map_set] at h
      exact h.drew
     clear hW5 fV pV p1 pA_
     have hnv : nv.ownBlock ≠ some W2.heap.size := fun e => by have := (HR2.out.news.lt _ e).2; omega
     have HR5 := Lib.hid (HR4.out.other HG5.out (by have := Hlt.out.1.1; omega) (by have := Hlt.out.1.2.1; omega) (by have := Hlt.out.1.2.2; omega) hnv Hlt.out.2)
     have kS : W5.cell? ⟨g, 0, none⟩ = some (.pointer (some ⟨sb, 0, none⟩)) := (HR5.out.bk.bk.cell 0).trans rfl
     have kM : W5.cell? ⟨sb, 16, none⟩ = some (.map (some mb)) := HR5.out.st.map HR5.out.roots
     have c0 : W5.cell? ⟨W2.heap.size, 0, none⟩ = some (.int .u64 y0) := (hB5.cell 0).trans rfl
     have c1 : W5.cell? ⟨W2.heap.size, 1, none⟩ = some (.int .u64 y1) := (hB5.cell 1).trans rfl
     have c2 : W5.cell? ⟨W2.heap.size, 2, none⟩ = some (.int .u64 y2) := (hB5.cell 2).trans rfl
     have c3 : W5.cell? ⟨W2.heap.size, 3, none⟩ = some (.int .u64 y3) := (hB5.cell 3).trans rfl
     have c4 : W5.cell? ⟨W2.heap.size, 4, none⟩ = some (.int .u64 y4) := (hB5.cell 4).trans rfl
     have c5 : W5.cell? ⟨W2.heap.size, 5, none⟩ = some (.int .u64 y5) := (hB5.cell 5).trans rfl
     have c6 : W5.cell? ⟨W2.heap.size, 6, none⟩ = some (.int .u64 y6) := (hB5.cell 6).trans rfl
     have c7 : W5.cell? ⟨W2.heap.size, 7, none⟩ = some (.int .u64 y7) := (hB5.cell 7).trans rfl
     have hnN : n < maxLen := by have := HR5.out.nb; unfold maxLen; omega
     clear hB5 hnv
     go_still_tail 9, (by kernel_rfl)
     refine wpList_store_blk _ (by rfl) (.tmp 91) (.tmp 92) (.tmp 93) 96 (by rfl) 31 91 Try.underlying31 Try.underlying96 mb n r'.st.blocks (by rfl) HR5.out.map.drew hnN X (by rfl) HUX.out [y0, y1, y2, y3, y4, y5, y6, y7] (by rfl) rfl ?_
     intro W6 hown6 hg6
     have hr6 : RunIn W6 B (NB + 1) g args maxw { r' with st := { r.st with blocks := upd r.st.blocks X (some [y0, y1, y2, y3, y4, y5, y6, y7]) } } sb mb (n + 1) pA pc_ nv := by
      rw [← HS.out]
      exact HR5.out.maps ((grown_drew _ _).trans hg6) hown6 (by have := HR5.out.nb; omega)
     have HR6 := Lib.hid hr6
     have HB6 := Lib.hid ((((Below.refl B w).grown HG4.out HP.out (fun k hk => by cases hk; exact HR4.out.bg)).trans ((Below.refl _ _).grown HG5.out HR4.out.pos (fun k hk => by cases hk; exact Hlt.out.2))).trans ((Below.refl _ _).grown ((grown_drew _ _).trans hg6) HR5.out.pos (fun k hk => by cases hk; exact HR5.out.bm)))
     clear hown6 hg6 hr6 c0 c1 c2 c3 c4 c5 c6 c7 kS kM
     go_wp2
     go_ret
     rw [HE.out]
     exact ⟨rfl, ⟨_, _, _, _, _, _, HR6.out⟩, HB6.out⟩
set_option maxRecDepth 100000 in
set_option maxHeartbeats 8000000 in
theorem word_14 (B NB g : Nat) (args : List Int) (maxw : Int) (a b c : Nat) (imm : Int) (r : MRun) (sb mb n : Nat) (pA : Option Addr) (pc_ : Nat) (nv : Value) (w : World) (h : RunIn w B NB g args maxw r sb mb n pA pc_ nv) (hok : ROk maxw r) (ha16 : a < 16) (hb16 : b < 16) (hc16 : c < 16) (him : U64 imm) (hNB : NB < 1000000000000) :
 Calls Try.prog 53 #[.pointer (some ⟨g, 0, none⟩), .agg #[.int .i64 14, .int .i64 a, .int .i64 b, .int .i64 c, .int .u64 imm]] w (DoPost2 B NB g args maxw (wordP maxw ⟨14, a, b, c, imm⟩ r) w) := by
 obtain ⟨W1, hW1⟩ : ∃ W1, w.alloc (.cells #[.int .i64 14, .int .i64 a, .int .i64 b, .int .i64 c, .int .u64 imm] 62) = W1 := ⟨_, rfl⟩
 have HG1 : Hid (w.grownBy W1 none) := by show World.grownBy _ _ _; rw [← hW1]; exact World.grownBy_alloc _ _ _
 have hI : Bk W1 w.heap.size 62 #[.int .i64 14, .int .i64 a, .int .i64 b, .int .i64 c, .int .u64 imm] := by rw [← hW1]; exact Bk.new w _ _
 have HP := Lib.hid h.pos
 have HNg : Hid (g ≠ w.heap.size) := fun e => by have := h.lt.1; omega
 have HR := Lib.hid (h.more HG1.out)
 have HI := Lib.hid hI
 have HW1 := Lib.hid hW1
 have HK := Lib.hid hok
 have q0 : W1.cell? ⟨w.heap.size, 0, none⟩ = some (.int .i64 14) := (hI.cell 0).trans rfl
 have q1 : W1.cell? ⟨w.heap.size, 1, none⟩ = some (.int .i64 a) := (hI.cell 1).trans rfl
 have q2 : W1.cell? ⟨w.heap.size, 2, none⟩ = some (.int .i64 b) := (hI.cell 2).trans rfl
 have q3 : W1.cell? ⟨w.heap.size, 3, none⟩ = some (.int .i64 c) := (hI.cell 3).trans rfl
 have q4 : W1.cell? ⟨w.heap.size, 4, none⟩ = some (.int .u64 imm) := (hI.cell 4).trans rfl
 obtain ⟨X, hX⟩ : ∃ X, r.regs.getD b 0 = X := ⟨_, rfl⟩
 obtain ⟨Y, hY⟩ : ∃ Y, r.regs.getD a 0 = Y := ⟨_, rfl⟩
 obtain ⟨Z, hZ⟩ : ∃ Z, r.regs.getD c 0 = Z := ⟨_, rfl⟩
 have HUX : Hid (U64 X) := by show U64 X; rw [← hX]; exact getD_u64 hok.regs b
 have HUZ : Hid (U64 Z) := by show U64 Z; rw [← hZ]; exact getD_u64 hok.regs c
 have HUI := Lib.hid him
 have kX : W1.cell? ⟨g, 5 + b, none⟩ = some (.int .u64 X) := by rw [← hX]; exact HR.out.bk.reg hb16
 have kZ : W1.cell? ⟨g, 5 + c, none⟩ = some (.int .u64 Z) := by rw [← hZ]; exact HR.out.bk.reg hc16
 have HX : Hid (r.reg (b : Int) = X) := hX
 have HY : Hid (r.reg (a : Int) = Y) := hY
 have HZ : Hid (r.reg (c : Int) = Z) := hZ
 have HWd : Hid (wordAt ⟨14, a, b, c, imm⟩ r = Z) := by show _ = _; exact hZ
 have ai : (a : Int) < 16 := by omega
 have bi : (b : Int) < 16 := by omega
 have ci : (c : Int) < 16 := by omega
 clear hW1 hI hX hY hZ h hok him
 go_enter Try.func53, Try.ntmps53
 go_wp2_with fail
 rw [HW1.out]
 go_quiet (fail)
 go_wp2_with fail
 go_quiet (fail)
 generalize hW2 : World.drewN _ _ = W2
 have HG2 : Hid (W1.grownBy W2 none) := by show World.grownBy _ _ _; rw [← hW2]; exact (grown_drewN _ _ _).trans (grown_drewN _ _ _)
 clear hW2 kX kZ q0 q1 q2 q3 q4
 have HR2 := Lib.hid (HR.out.more HG2.out)
 have HGw := Lib.hid (HG1.out.trans HG2.out)
 have hI2 := HI.out.grown HG2.out (by simp)
 have q0 : W2.cell? ⟨w.heap.size, 0, none⟩ = some (.int .i64 14) := (hI2.cell 0).trans rfl
 have q1 : W2.cell? ⟨w.heap.size, 1, none⟩ = some (.int .i64 a) := (hI2.cell 1).trans rfl
 have kS : W2.cell? ⟨g, 0, none⟩ = some (.pointer (some ⟨sb, 0, none⟩)) := (HR2.out.bk.bk.cell 0).trans rfl
 have kM : W2.cell? ⟨sb, 16, none⟩ = some (.map (some mb)) := HR2.out.st.map HR2.out.roots
 have kY : W2.cell? ⟨g, 5 + a, none⟩ = some (.int .u64 Y) := by rw [← HY.out]; exact HR2.out.bk.reg ha16
 have fA := HR2.out.bk.bk.frozen (5 + a)
 have hlk := HR2.out.map.look (t := 96) (e := 91) Try.underlying31 Try.underlying96 (zero_blk _) HUX.out
 have HI2 := Lib.hid hI2
 clear hI2
 cases hf : r.st.blocks X with
 | none =>
   rw [hf] at hlk
   simp only [Option.getD_none, Option.isSome_none, blkV, zero8, List.map_cons, List.map_nil] at hlk
   have HE : Hid (wordP maxw ⟨14, a, b, c, imm⟩ r = (44, r)) := by
    show _ = _
    rw [wordP, HX.out, hf]
   clear hf
   go_wp2
   go_ret
   rw [HE.out]
   exact DoPost2.mk rfl (HR2.out.more (World.grownBy_alloc _ _ _)) ((Below.refl _ _).grown (HGw.out.trans (World.grownBy_alloc _ _ none)) HP.out (by simp))
 | some ws =>
   rw [hf] at hlk
   have h8 := HR2.out.map.words HUX.out hf
   obtain ⟨x0, x1, x2, x3, x4, x5, x6, x7, hws⟩ := eight h8
   subst hws
   simp only [Option.getD_some, Option.isSome_some, blkV, List.map_cons, List.map_nil] at hlk
   have HF := Lib.hid hf
   clear hf
   by_cases hv : 8 ≤ Z
   ·have hd : decide (Z ≥ 8) = true := decide_eq_true hv
    have HE : Hid (wordP maxw ⟨14, a, b, c, imm⟩ r = (44, r)) := by
     show _ = _
     rw [wordP, HX.out, HF.out]
     simp only [HWd.out, if_pos hv]
    go_wp2
    go_ret
    rw [HE.out]
    exact DoPost2.mk rfl (HR2.out.more (World.grownBy_alloc _ _ _)) ((Below.refl _ _).grown (HGw.out.trans (World.grownBy_alloc _ _ none)) HP.out (by simp))
   ·have hd : decide (Z ≥ 8) = false := decide_eq_false hv
    obtain ⟨v, rfl⟩ : ∃ v : Nat, Z = (v : Int) := ⟨Z.toNat, by have := HUZ.out.1; omega⟩
    have hv8 : v < 8 := by omega
    obtain ⟨W3, hW3⟩ : ∃ W3, W2.alloc (.cells #[.int .u64 x0, .int .u64 x1, .int .u64 x2, .int .u64 x3, .int .u64 x4, .int .u64 x5, .int .u64 x6, .int .u64 x7] 91) = W3 := ⟨_, rfl⟩
    have HG3 : Hid (W2.grownBy W3 none) := by show World.grownBy _ _ _; rw [← hW3]; exact World.grownBy_alloc _ _ _
    have HBx : Hid (Bk W3 W2.heap.size 91 (u64s [x0, x1, x2, x3, x4, x5, x6, x7]).toArray) := by rw [← hW3]; exact Bk.new _ _ _
    have HR3 := Lib.hid (HR2.out.more HG3.out)
    have HI3 := Lib.hid (HI2.out.grown HG3.out (by simp))
    have HGv := Lib.hid (HGw.out.trans HG3.out)
    have HW3 := Lib.hid hW3
    clear hW3
    go_upto_region 5 with fail
    rw [HW3.out]
    have hlt := HR2.out.lt
    have hB2 := HR2.out.pos
    have p0 : W3.cell? ⟨w.heap.size, 0, none⟩ = some (.int .i64 14) := (HI3.out.cell 0).trans rfl
    clear kS kM kY fA q0 q1 hlk
    go_wp2_with fail
    refine (payIn_any B NB g args maxw 14 r sb mb n pA pc_ nv _ HR3.out HK.out).mono ?_
    intro e W4 hp
    obtain ⟨hp | hp, hg⟩ := hp
    ·obtain ⟨hpay, rfl, hr4⟩ := hp
     have HE : Hid (wordP maxw ⟨14, a, b, c, imm⟩ r = (42, r)) := by
      show _ = _
      rw [wordP, HX.out, HF.out]
      simp only [HWd.out, if_neg (show ¬ (8 : Int) ≤ (v : Int) by omega)]
      rw [if_neg (by simp)]
      simp only [hpay]
     have HG4 : Hid (w.grownBy W4 (some g)) := (HGv.out.but _).trans hg
     have HR4 := Lib.hid hr4
     clear hg hr4 hpay
     go_wp2
     go_ret
     rw [HE.out]
     exact DoPost2.mk rfl HR4.out ((Below.refl _ _).grown HG4.out HP.out (fun k hk => by cases hk; exact HR4.out.bg))
    ·obtain ⟨r', hpay, es, er, en, ep, rfl, hr4⟩ := hp
     obtain ⟨y0, y1, y2, y3, y4, y5, y6, y7, hys⟩ := eight (l := ([x0, x1, x2, x3, x4, x5, x6, x7] : List Int).set v Y) (by simp)
     have HE : Hid (wordP maxw ⟨14, a, b, c, imm⟩ r = (0, { r' with st := { r.st with blocks := upd r.st.blocks X (some [y0, y1, y2, y3, y4, y5, y6, y7]) } })) := by
      show _ = _
      rw [wordP, HX.out, HF.out]
      simp only [HWd.out, if_neg (show ¬ (8 : Int) ≤ (v : Int) by omega)]
      rw [if_neg (by simp)]
      simp only [hpay, HY.out, Int.toNat_natCast, hys]
     have hR4 := HR3.out.lt
     have HR4 := Lib.hid hr4
     have HG4 : Hid (w.grownBy W4 (some g)) := (HGv.out.but _).trans hg
     have hI4 := HI3.out.grown hg (fun e => HNg.out (Option.some.inj e))
     have hB4 : Bk W4 W2.heap.size 91 (u64s [x0, x1, x2, x3, x4, x5, x6, x7]).toArray := HBx.out.grown hg (fun e => by have := Option.some.inj e; omega)
     have p1 : W4.cell? ⟨w.heap.size, 1, none⟩ = some (.int .i64 a) := (hI4.cell 1).trans rfl
     have pA_ : W4.cell? ⟨g, 5 + a, none⟩ = some (.int .u64 Y) := by
      have h := HR4.out.bk.reg ha16
      rw [h]; show some (Value.int .u64 (r'.regs.getD a 0)) = _
      rw [er]; exact congrArg (fun z => some (Value.int .u64 z)) HY.out
     have pV : W4.cell? ⟨W2.heap.size, v, none⟩ = some (.int .u64 (([x0, x1, x2, x3, x4, x5, x6, x7] : List Int).getD v 0)) := by rw [hB4.cell]; exact u64s_get hv8
     obtain ⟨S, hS⟩ : ∃ S, ([x0, x1, x2, x3, x4, x5, x6, x7] : List Int).getD v 0 = S := ⟨_, rfl⟩
     rw [hS] at pV
     have fV := hB4.frozen v
     have HS := Lib.hid es
     have HB4 := Lib.hid hB4
     have HYs := Lib.hid hys
     have Hlt := Lib.hid (And.intro hlt hB2)
     clear hS hpay hg hr4 hI4 hB4 hys es er p0 hlt hB2 hR4
     go_wp2_with fail
     go_still_tail 9, (by kernel_rfl)
     go_wp2_with fail
     generalize hW5 : World.drew _ = W5
     obtain ⟨W5, rfl⟩ : ∃ W, W = W5 := ⟨_, rfl⟩
     have HG5 : Hid (W4.grownBy W5 (some W2.heap.size)) := by show World.grownBy _ _ _; rw [← hW5]; exact (grown_set _ _ _ _).trans (grown_drew _ _)
     have hB5 : Bk W5 W2.heap.size 91 (u64s [y0, y1, y2, y3, y4, y5, y6, y7]).toArray := by
      rw [← hW5, ← HYs.out]
      have h := HB4.out.set_ v (.int .u64 Y)
      rw [List.setIfInBounds_toArray, ← List.map_set] at h
      exact h.drew
     clear hW5 fV pV p1 pA_
     have hnv : nv.ownBlock ≠ some W2.heap.size := fun e => by have := (HR2.out.news.lt _ e).2; omega
     have HR5 := Lib.hid (HR4.out.other HG5.out (by have := Hlt.out.1.1; omega) (by have := Hlt.out.1.2.1; omega) (by have := Hlt.out.1.2.2; omega) hnv Hlt.out.2)
     have kS : W5.cell? ⟨g, 0, none⟩ = some (.pointer (some ⟨sb, 0, none⟩)) := (HR5.out.bk.bk.cell 0).trans rfl
     have kM : W5.cell? ⟨sb, 16, none⟩ = some (.map (some mb)) := HR5.out.st.map HR5.out.roots
     have c0 : W5.cell? ⟨W2.heap.size, 0, none⟩ = some (.int .u64 y0) := (hB5.cell 0).trans rfl
     have c1 : W5.cell? ⟨W2.heap.size, 1, none⟩ = some (.int .u64 y1) := (hB5.cell 1).trans rfl
     have c2 : W5.cell? ⟨W2.heap.size, 2, none⟩ = some (.int .u64 y2) := (hB5.cell 2).trans rfl
     have c3 : W5.cell? ⟨W2.heap.size, 3, none⟩ = some (.int .u64 y3) := (hB5.cell 3).trans rfl
     have c4 : W5.cell? ⟨W2.heap.size, 4, none⟩ = some (.int .u64 y4) := (hB5.cell 4).trans rfl
     have c5 : W5.cell? ⟨W2.heap.size, 5, none⟩ = some (.int .u64 y5) := (hB5.cell 5).trans rfl
     have c6 : W5.cell? ⟨W2.heap.size, 6, none⟩ = some (.int .u64 y6) := (hB5.cell 6).trans rfl
     have c7 : W5.cell? ⟨W2.heap.size, 7, none⟩ = some (.int .u64 y7) := (hB5.cell 7).trans rfl
     have hnN : n < maxLen := by have := HR5.out.nb; unfold maxLen; omega
     clear hB5 hnv
     go_still_tail 9, (by kernel_rfl)
     refine wpList_store_blk _ (by rfl) (.tmp 91) (.tmp 92) (.tmp 93) 96 (by rfl) 31 91 Try.underlying31 Try.underlying96 mb n r'.st.blocks (by rfl) HR5.out.map.drew hnN X (by rfl) HUX.out [y0, y1, y2, y3, y4, y5, y6, y7] (by rfl) rfl ?_
     intro W6 hown6 hg6
     have hr6 : RunIn W6 B (NB + 1) g args maxw { r' with st := { r.st with blocks := upd r.st.blocks X (some [y0, y1, y2, y3, y4, y5, y6, y7]) } } sb mb (n + 1) pA pc_ nv := by
      rw [← HS.out]
      exact HR5.out.maps ((grown_drew _ _).trans hg6) hown6 (by have := HR5.out.nb; omega)
     have HR6 := Lib.hid hr6
     have HB6 := Lib.hid ((((Below.refl B w).grown HG4.out HP.out (fun k hk => by cases hk; exact HR4.out.bg)).trans ((Below.refl _ _).grown HG5.out HR4.out.pos (fun k hk => by cases hk; exact Hlt.out.2))).trans ((Below.refl _ _).grown ((grown_drew _ _).trans hg6) HR5.out.pos (fun k hk => by cases hk; exact HR5.out.bm)))
     clear hown6 hg6 hr6 c0 c1 c2 c3 c4 c5 c6 c7 kS kM
     go_wp2
     go_ret
     rw [HE.out]
     exact ⟨rfl, ⟨_, _, _, _, _, _, HR6.out⟩, HB6.out⟩
theorem word_any (B NB g : Nat) (args : List Int) (maxw : Int) (i : Ins) (r : MRun) (sb mb n : Nat) (pA : Option Addr) (pc_ : Nat) (nv : Value) (w : World) (h : RunIn w B NB g args maxw r sb mb n pA pc_ nv) (hok : ROk maxw r) (hi : RegsOk i) (him : U64 i.imm) (hNB : NB < 1000000000000) (hop : i.op = 11 ∨ i.op = 12 ∨ i.op = 13 ∨ i.op = 14) :
 Calls Try.prog 53 #[.pointer (some ⟨g, 0, none⟩), i.v] w (DoPost2 B NB g args maxw (wordP maxw i r) w) := by
 obtain ⟨op, ia, ib, ic, imm⟩ := i
 obtain ⟨⟨a0, a1⟩, ⟨b0, b1⟩, ⟨c0, c1⟩⟩ := hi
 simp only at a0 a1 b0 b1 c0 c1 hop him
 obtain ⟨a, rfl⟩ : ∃ a : Nat, ia = (a : Int) := ⟨ia.toNat, by omega⟩
 obtain ⟨b, rfl⟩ : ∃ b : Nat, ib = (b : Int) := ⟨ib.toNat, by omega⟩
 obtain ⟨c, rfl⟩ : ∃ c : Nat, ic = (c : Int) := ⟨ic.toNat, by omega⟩
 rcases hop with rfl | rfl | rfl | rfl
 ·exact word_11 B NB g args maxw a b c imm r sb mb n pA pc_ nv w h hok (by omega) (by omega) (by omega) him hNB
 ·exact word_12 B NB g args maxw a b c imm r sb mb n pA pc_ nv w h hok (by omega) (by omega) (by omega) him hNB
 ·exact word_13 B NB g args maxw a b c imm r sb mb n pA pc_ nv w h hok (by omega) (by omega) (by omega) him hNB
 ·exact word_14 B NB g args maxw a b c imm r sb mb n pA pc_ nv w h hok (by omega) (by omega) (by omega) him hNB
end Go.Proofs.Ytjggmimaolddkaa
