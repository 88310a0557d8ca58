/-
  Chapter 19: contract of linker.one. Printed by gen/lkc.py.
-/
import Derived.Test.YtddaeaimimdonaaLkB
import Derived.Test.YtddaeaimimdonaaOwn2
import Derived.StillTailTactics
import Derived.Deep.RegionLaw
import Derived.Deep.RegionHeld3
import Derived.Deep.DeepCutAuto
namespace Go.Proofs.Ytddaeaimimdonaa
open Go.RowKit
set_option linter.unusedVariables false

theorem LkV.at_u {w w' : World} {g u : Nat} {ov tv : Value} {out : List Ins} {A : Option Addr} {n c : Nat} {a0 a1 a2 a3 : PArg} {k : Int} {tos : List Int} (h : LkV w g ov out A n c a0 a1 a2 a3 k tv tos) (hg : w.grownBy w' (some u)) (h1 : u ≠ g) (h2 : ov.ownBlock ≠ some u) (h3 : tv.ownBlock ≠ some u) : LkV w' g ov out A n c a0 a1 a2 a3 k tv tos :=
  ⟨h.bk.grown hg (by simpa using h1), h.out.kept hg (.inr h2), h.tos.kept hg (.inr h3)⟩
theorem Bk.set_other {w : World} {g : Nat} {t : TypeId} {cs : Array Value} (h : Bk w g t cs) {p : Addr} {u : Value} (hp : p.block ≠ g) : Bk (w.setCell p u) g t cs := by
  unfold Bk at h ⊢
  simp [World.setCell, Array.getElem?_modify, h, hp]
def OnePost (g : Nat) (out : List Ins) (A : Option Addr) (n c : Nat) (a0 a1 a2 a3 : PArg) (k : Int) (tv : Value) (tos : List Int) (w : World) (e : Ending) (w' : World) : Prop :=
  e = .returned (.tuple #[]) ∧ (∃ ov', LkV w' g ov' out A n c a0 a1 a2 a3 k tv tos) ∧ Below g w w'
/-- What an instruction of a part is like, so that the linker can turn it. -/
structure OneOk (i : Ins) (n : Nat) (args : List PArg) : Prop where
  go : i.op = 17 ∨ i.op = 18 ∨ i.op = 19 → 0 ≤ i.imm ∧ i.imm ≤ n
  arg : i.op = 8 → 0 ≤ i.imm ∧ i.imm < 4
  ar : ∀ a ∈ args, a.kind = 1 → 0 ≤ a.val ∧ a.val ≤ 1000
  reg : 0 ≤ i.a ∧ i.a ≤ 1000
theorem rdI_one (w : World) (i : Ins) (t : TypeId) : RdI ((w.alloc (.cells #[.int .i64 i.op, .int .i64 i.a, .int .i64 i.b, .int .i64 i.c, .int .u64 i.imm] t)).drew) (w.heap.size + 1) (some ⟨w.heap.size, 0, none⟩) 1 [i] :=
  (Rd.newAt w _ _ _ rfl (size := 5) (m := 1) rfl (by simp [maxLen])).drew
theorem insCells_one1 (i : Ins) : ∀ u ∈ insCells [i], u.oneCell' = true := insCells_one [i]

set_option maxRecDepth 100000 in
set_option maxHeartbeats 16000000 in
theorem lone_any (g at_ j n c kk : Nat) (A : Option Addr) (code : List Ins) (out : List Ins) (a0 a1 a2 a3 : PArg) (ov tv : Value) (tos : List Int) (w : World) (h : LkV w g ov out A n c a0 a1 a2 a3 (kk : Int) tv tos) (hr : RdI w g A n code) (hj : j < n)
    (hi : ∀ i, code[j]? = some i → OneOk i n [a0, a1, a2, a3]) (hto : tos.length = n + 1) (hat : ∀ q, q ≤ n → tos.getD q 0 = ((at_ + beforeL code q : Nat) : Int)) (hk : kk ≤ 10) (ho : out.length ≤ 10000) (hn : n ≤ 1000) (hatb : at_ + beforeL code n ≤ 100000) (hbm : ∀ q, q ≤ n → beforeL code q ≤ beforeL code n) :
    Calls Try.prog 64 #[.pointer (some ⟨g, 0, none⟩), .int .i64 j] w (OnePost g (out ++ oneL code [a0, a1, a2, a3] kk at_ j) A n c a0 a1 a2 a3 (kk : Int) tv tos w) := by
  obtain ⟨i0, hi0, hz0, hz1, hz2⟩ := info_parts info_insL
  obtain ⟨b, o, i, rfl, hbB, hic, c0, c1, c2, c3, c4⟩ := hr.insAt hj
  have hok := hi i hic
  have hll := hr.insLen
  have hE : oneL code [a0, a1, a2, a3] kk at_ j = if i.op = 17 ∨ i.op = 18 ∨ i.op = 19 then [{ i with imm := ((at_ + beforeL code i.imm.toNat : Nat) : Int) }]
      else if i.op = 8 then [handedP i.a ([a0, a1, a2, a3].getD i.imm.toNat ⟨0, 0⟩)]
      else if i.op = 20 then ⟨1, 12 + (kk : Int), i.a, 0, 0⟩ :: (if j + 1 < n then [⟨17, 0, 0, 0, ((at_ + beforeL code n : Nat) : Int)⟩] else [])
      else [i] := by
    unfold oneL
    rw [List.getD_eq_getElem?_getD, hic, hll]; rfl
  obtain ⟨L, hL⟩ : ∃ L, oneL code [a0, a1, a2, a3] kk at_ j = L := ⟨_, rfl⟩
  rw [hL] at hE ⊢
  have HE := Lib.hid hE
  have HIc := Lib.hid hic
  clear hL
  obtain ⟨Ao, co, rfl, hco, _⟩ := Rd.of_own_cap h.out
  obtain ⟨At, ct, rfl, hct, hrt⟩ := Rd.of_own_cap h.tos
  have HL0 := Lib.hid h
  have HT0 := Lib.hid hrt
  have HR0 := Lib.hid hr
  have HOK := Lib.hid hok
  have HAt := Lib.hid hat
  have HBm := Lib.hid hbm
  have HTo := Lib.hid hto
  have hg := h.lt
  obtain ⟨op, ia, ib, ic, imm⟩ := i
  simp only at c0 c1 c2 c3 c4 hok
  have k1 : w.cell? ⟨g, 1, none⟩ = some (.slice (some ⟨b, o, none⟩) n c) := (h.bk.cell 1).trans rfl
  obtain ⟨no, hno⟩ : ∃ no, out.length = no := ⟨_, rfl⟩
  rw [hno] at HL0
  rw [hto] at HL0 HT0 ⊢
  have HNo := Lib.hid hno
  rw [hno] at ho
  clear h hrt hr hic hi hat hbm hto hE hll hno hok
  go_enter Try.func64, Try.ntmps64
  go_upto_region 1 with fail
  obtain ⟨W1, hW1⟩ : ∃ W1, w.alloc (.cells #[.int .i64 op, .int .i64 ia, .int .i64 ib, .int .i64 ic, .int .u64 imm] 43) = W1 := ⟨_, rfl⟩
  have hg1 : w.grownBy W1 none := by rw [← hW1]; exact World.grownBy_alloc _ _ _
  have HBw : Hid (Below w.heap.size w W1) := by show Below _ _ _; rw [← hW1]; exact (Below.refl _ _).alloc (Nat.le_refl _) _
  have HG1 := Lib.hid hg1
  have HI1 : Hid (Bk W1 w.heap.size 43 #[.int .i64 op, .int .i64 ia, .int .i64 ib, .int .i64 ic, .int .u64 imm]) := by show Bk _ _ _ _; rw [← hW1]; exact Bk.new _ _ _
  rw [hW1]
  clear hW1 hg1 c0 c1 c2 c3 c4 k1
  have j0 : W1.cell? ⟨w.heap.size, 0, none⟩ = some (.int .i64 op) := (HI1.out.cell 0).trans rfl

  by_cases h17 : op = 17
  · subst h17
    obtain ⟨im0, im1⟩ := HOK.out.go (.inl rfl)
    simp only at im0 im1
    obtain ⟨m, rfl⟩ : ∃ m : Nat, imm = (m : Int) := ⟨imm.toNat, by omega⟩
    have hm : m < n + 1 := by omega
    have hmi : (m : Int) < (n : Int) + 1 := by omega
    obtain ⟨T, hT⟩ : ∃ T : Nat, at_ + beforeL code m = T := ⟨_, rfl⟩
    have hTb : T ≤ 100000 := by have := HBm.out m (by omega); omega
    have hTw : IntKind.u64.wrap (T : Int) = T := by rw [IntKind.wrap_u64]; omega
    obtain ⟨tb, tof, rfl, htb, hct⟩ := HT0.out.at_ (by omega)
    have t0 : W1.cell? ⟨tb, tof + m, none⟩ = some (.int .i64 T) := HG1.out.cell (a := ⟨tb, tof + m, none⟩) (hct m _ (by rw [ints_at (by rw [HTo.out]; exact hm), HAt.out m (by omega), hT])) (by simp)
    have q11 : W1.cell? ⟨g, 11, none⟩ = some (.slice (some ⟨tb, tof, none⟩) (n + 1) ct) := ((HL0.out.more HG1.out).bk.cell 11).trans rfl
    have i4 : W1.cell? ⟨w.heap.size, 4, none⟩ = some (.int .u64 m) := (HI1.out.cell 4).trans rfl
    have f4 := HI1.out.frozen 4
    have HLt : Hid (L = [⟨17, ia, ib, ic, (T : Int)⟩]) := by
      show _ = _
      rw [HE.out, if_pos (.inl rfl), ← hT]; rfl
    clear hct htb hT
    go_wp2_with fail
    go_still_tail 10, (by kernel_rfl)
    go_upto_region 12 with fail
    obtain ⟨V, hV⟩ : ∃ V, (W1.setCell ⟨w.heap.size, 4, none⟩ (.int .u64 T)).drew = V := ⟨_, rfl⟩
    have HI : Hid (Bk V w.heap.size 43 #[.int .i64 17, .int .i64 ia, .int .i64 ib, .int .i64 ic, .int .u64 T]) := by
      show Bk _ _ _ _
      rw [← hV]
      have h := (HI1.out.set_ 4 (.int .u64 T)).drew
      simpa using h
    have HBw2 : Hid (Below w.heap.size w V) := by show Below _ _ _; rw [← hV]; exact (HBw.out.setCell (p := ⟨w.heap.size, 4, none⟩) (Nat.le_refl _) _).drew
    have HL := Lib.hid (HL0.out.more (bk_grown_below HBw2.out))
    have HBV := Lib.hid (HBw2.out.mono (Nat.le_of_lt hg))
    rw [hV]
    clear hV t0 q11 i4 f4 j0 hTw
    have qv0 : V.cell? ⟨g, 0, none⟩ = some (.slice Ao no co) := (HL.out.bk.cell 0).trans rfl
    have iv0 : V.cell? ⟨w.heap.size, 0, none⟩ = some (.int .i64 17) := (HI.out.cell 0).trans rfl
    have iv1 : V.cell? ⟨w.heap.size, 1, none⟩ = some (.int .i64 ia) := (HI.out.cell 1).trans rfl
    have iv2 : V.cell? ⟨w.heap.size, 2, none⟩ = some (.int .i64 ib) := (HI.out.cell 2).trans rfl
    have iv3 : V.cell? ⟨w.heap.size, 3, none⟩ = some (.int .i64 ic) := (HI.out.cell 3).trans rfl
    have iv4 : V.cell? ⟨w.heap.size, 4, none⟩ = some (.int .u64 T) := (HI.out.cell 4).trans rfl
    have HLd := Lib.hid (HL.out.more ((World.grownBy_alloc V (.cells #[.int .i64 17, .int .i64 ia, .int .i64 ib, .int .i64 ic, .int .u64 T] 43) none).trans (grown_drew _ none)))
    have HBd := Lib.hid (HBV.out.trans ((Below.refl g V).alloc (Nat.le_of_lt HL.out.lt) (.cells #[.int .i64 17, .int .i64 ia, .int .i64 ib, .int .i64 ic, .int .u64 T] 43)).drew)
    have HOa := Lib.hid HLd.out.out
    have hz3 : g + 1 ≤ ((V.alloc (.cells #[.int .i64 17, .int .i64 ia, .int .i64 ib, .int .i64 ic, .int .u64 T] 43)).drew).heap.size := HLd.out.lt
    have Ra : Hid (RdI ((V.alloc (.cells #[.int .i64 17, .int .i64 ia, .int .i64 ib, .int .i64 ic, .int .u64 T] 43)).drew) (V.heap.size + 1) (some ⟨V.heap.size, 0, none⟩) 1 [⟨17, ia, ib, ic, T⟩]) := rdI_one V ⟨17, ia, ib, ic, T⟩ _
    have h1 := insCells_one1 ⟨17, ia, ib, ic, T⟩
    have hln : (out).length ≤ 20000 := by have := HNo.out; omega
    have h63b : (out).length + 1 ≤ maxLen := by simp only [maxLen]; omega
    have hb48 : ((out).length + 1) * 40 ≤ 140737488355328 := by omega
    clear hln
    have qd0 : ((V.alloc (.cells #[.int .i64 17, .int .i64 ia, .int .i64 ib, .int .i64 ic, .int .u64 T] 43)).drew).cell? ⟨g, 0, none⟩ = some (.slice Ao no co) := (HLd.out.bk.cell 0).trans rfl
    have hgv : g ≠ V.heap.size := Nat.ne_of_lt HL.out.lt
    have hgv2 : V.heap.size ≠ g := Nat.ne_of_gt HL.out.lt
    go_region_law (
      refine step_app _ (by rfl) (.tmp 83) (.tmp 85) 23 (by rfl) (g + 1) 43 i0 _ 5 40 Try.underlying23 hi0 hz0 hz1 hz2 rfl (by decide) _ _ _ (by rfl) HOa.out _ _ 1 1 _ (by rfl) Ra.out h1 h63b hb48 hz3 ?_
      intro v5 w5 hown5 hg5 hor5
      obtain ⟨A5, c5, hv5, _, _⟩ := Rd.of_own_cap hown5
      subst hv5
      have HO5 := Lib.hid hown5
      have HG5 := Lib.hid hg5
      have hk5 := HLd.out.bk.grown hg5 (HLd.out.bk.ne_own HLd.out.out (by decide))
      have q0 : w5.cell? ⟨g, 0, none⟩ = some (.slice Ao no co) := (hk5.cell 0).trans rfl
      have p0 := hk5.frozen 0
      have HB5 := Lib.hid (HBd.out.trans (below_row HLd.out.out hg5 (Nat.le_of_lt HLd.out.lt)))
      have hg5' := hk5.lt
      clear hown5 hg5 hk5 hor5)
    all_goals
      go_wp2
      go_end0
      rw [HLt.out]
      exact ⟨rfl, ⟨_, LkV.app HLd.out HG5.out HO5.out rfl⟩, HB5.out.setCell (p := ⟨g, 0, none⟩) (Nat.le_refl _) _⟩
  by_cases h18 : op = 18
  · subst h18
    obtain ⟨im0, im1⟩ := HOK.out.go (.inr (.inl rfl))
    simp only at im0 im1
    obtain ⟨m, rfl⟩ : ∃ m : Nat, imm = (m : Int) := ⟨imm.toNat, by omega⟩
    have hm : m < n + 1 := by omega
    have hmi : (m : Int) < (n : Int) + 1 := by omega
    obtain ⟨T, hT⟩ : ∃ T : Nat, at_ + beforeL code m = T := ⟨_, rfl⟩
    have hTb : T ≤ 100000 := by have := HBm.out m (by omega); omega
    have hTw : IntKind.u64.wrap (T : Int) = T := by rw [IntKind.wrap_u64]; omega
    obtain ⟨tb, tof, rfl, htb, hct⟩ := HT0.out.at_ (by omega)
    have t0 : W1.cell? ⟨tb, tof + m, none⟩ = some (.int .i64 T) := HG1.out.cell (a := ⟨tb, tof + m, none⟩) (hct m _ (by rw [ints_at (by rw [HTo.out]; exact hm), HAt.out m (by omega), hT])) (by simp)
    have q11 : W1.cell? ⟨g, 11, none⟩ = some (.slice (some ⟨tb, tof, none⟩) (n + 1) ct) := ((HL0.out.more HG1.out).bk.cell 11).trans rfl
    have i4 : W1.cell? ⟨w.heap.size, 4, none⟩ = some (.int .u64 m) := (HI1.out.cell 4).trans rfl
    have f4 := HI1.out.frozen 4
    have HLt : Hid (L = [⟨18, ia, ib, ic, (T : Int)⟩]) := by
      show _ = _
      rw [HE.out, if_pos (.inr (.inl rfl)), ← hT]; rfl
    clear hct htb hT
    go_wp2_with fail
    go_still_tail 10, (by kernel_rfl)
    go_upto_region 12 with fail
    obtain ⟨V, hV⟩ : ∃ V, (W1.setCell ⟨w.heap.size, 4, none⟩ (.int .u64 T)).drew = V := ⟨_, rfl⟩
    have HI : Hid (Bk V w.heap.size 43 #[.int .i64 18, .int .i64 ia, .int .i64 ib, .int .i64 ic, .int .u64 T]) := by
      show Bk _ _ _ _
      rw [← hV]
      have h := (HI1.out.set_ 4 (.int .u64 T)).drew
      simpa using h
    have HBw2 : Hid (Below w.heap.size w V) := by show Below _ _ _; rw [← hV]; exact (HBw.out.setCell (p := ⟨w.heap.size, 4, none⟩) (Nat.le_refl _) _).drew
    have HL := Lib.hid (HL0.out.more (bk_grown_below HBw2.out))
    have HBV := Lib.hid (HBw2.out.mono (Nat.le_of_lt hg))
    rw [hV]
    clear hV t0 q11 i4 f4 j0 hTw
    have qv0 : V.cell? ⟨g, 0, none⟩ = some (.slice Ao no co) := (HL.out.bk.cell 0).trans rfl
    have iv0 : V.cell? ⟨w.heap.size, 0, none⟩ = some (.int .i64 18) := (HI.out.cell 0).trans rfl
    have iv1 : V.cell? ⟨w.heap.size, 1, none⟩ = some (.int .i64 ia) := (HI.out.cell 1).trans rfl
    have iv2 : V.cell? ⟨w.heap.size, 2, none⟩ = some (.int .i64 ib) := (HI.out.cell 2).trans rfl
    have iv3 : V.cell? ⟨w.heap.size, 3, none⟩ = some (.int .i64 ic) := (HI.out.cell 3).trans rfl
    have iv4 : V.cell? ⟨w.heap.size, 4, none⟩ = some (.int .u64 T) := (HI.out.cell 4).trans rfl
    have HLd := Lib.hid (HL.out.more ((World.grownBy_alloc V (.cells #[.int .i64 18, .int .i64 ia, .int .i64 ib, .int .i64 ic, .int .u64 T] 43) none).trans (grown_drew _ none)))
    have HBd := Lib.hid (HBV.out.trans ((Below.refl g V).alloc (Nat.le_of_lt HL.out.lt) (.cells #[.int .i64 18, .int .i64 ia, .int .i64 ib, .int .i64 ic, .int .u64 T] 43)).drew)
    have HOa := Lib.hid HLd.out.out
    have hz3 : g + 1 ≤ ((V.alloc (.cells #[.int .i64 18, .int .i64 ia, .int .i64 ib, .int .i64 ic, .int .u64 T] 43)).drew).heap.size := HLd.out.lt
    have Ra : Hid (RdI ((V.alloc (.cells #[.int .i64 18, .int .i64 ia, .int .i64 ib, .int .i64 ic, .int .u64 T] 43)).drew) (V.heap.size + 1) (some ⟨V.heap.size, 0, none⟩) 1 [⟨18, ia, ib, ic, T⟩]) := rdI_one V ⟨18, ia, ib, ic, T⟩ _
    have h1 := insCells_one1 ⟨18, ia, ib, ic, T⟩
    have hln : (out).length ≤ 20000 := by have := HNo.out; omega
    have h63b : (out).length + 1 ≤ maxLen := by simp only [maxLen]; omega
    have hb48 : ((out).length + 1) * 40 ≤ 140737488355328 := by omega
    clear hln
    have qd0 : ((V.alloc (.cells #[.int .i64 18, .int .i64 ia, .int .i64 ib, .int .i64 ic, .int .u64 T] 43)).drew).cell? ⟨g, 0, none⟩ = some (.slice Ao no co) := (HLd.out.bk.cell 0).trans rfl
    have hgv : g ≠ V.heap.size := Nat.ne_of_lt HL.out.lt
    have hgv2 : V.heap.size ≠ g := Nat.ne_of_gt HL.out.lt
    go_region_law (
      refine step_app _ (by rfl) (.tmp 83) (.tmp 85) 23 (by rfl) (g + 1) 43 i0 _ 5 40 Try.underlying23 hi0 hz0 hz1 hz2 rfl (by decide) _ _ _ (by rfl) HOa.out _ _ 1 1 _ (by rfl) Ra.out h1 h63b hb48 hz3 ?_
      intro v5 w5 hown5 hg5 hor5
      obtain ⟨A5, c5, hv5, _, _⟩ := Rd.of_own_cap hown5
      subst hv5
      have HO5 := Lib.hid hown5
      have HG5 := Lib.hid hg5
      have hk5 := HLd.out.bk.grown hg5 (HLd.out.bk.ne_own HLd.out.out (by decide))
      have q0 : w5.cell? ⟨g, 0, none⟩ = some (.slice Ao no co) := (hk5.cell 0).trans rfl
      have p0 := hk5.frozen 0
      have HB5 := Lib.hid (HBd.out.trans (below_row HLd.out.out hg5 (Nat.le_of_lt HLd.out.lt)))
      have hg5' := hk5.lt
      clear hown5 hg5 hk5 hor5)
    all_goals
      go_wp2
      go_end0
      rw [HLt.out]
      exact ⟨rfl, ⟨_, LkV.app HLd.out HG5.out HO5.out rfl⟩, HB5.out.setCell (p := ⟨g, 0, none⟩) (Nat.le_refl _) _⟩
  by_cases h19 : op = 19
  · subst h19
    obtain ⟨im0, im1⟩ := HOK.out.go (.inr (.inr rfl))
    simp only at im0 im1
    obtain ⟨m, rfl⟩ : ∃ m : Nat, imm = (m : Int) := ⟨imm.toNat, by omega⟩
    have hm : m < n + 1 := by omega
    have hmi : (m : Int) < (n : Int) + 1 := by omega
    obtain ⟨T, hT⟩ : ∃ T : Nat, at_ + beforeL code m = T := ⟨_, rfl⟩
    have hTb : T ≤ 100000 := by have := HBm.out m (by omega); omega
    have hTw : IntKind.u64.wrap (T : Int) = T := by rw [IntKind.wrap_u64]; omega
    obtain ⟨tb, tof, rfl, htb, hct⟩ := HT0.out.at_ (by omega)
    have t0 : W1.cell? ⟨tb, tof + m, none⟩ = some (.int .i64 T) := HG1.out.cell (a := ⟨tb, tof + m, none⟩) (hct m _ (by rw [ints_at (by rw [HTo.out]; exact hm), HAt.out m (by omega), hT])) (by simp)
    have q11 : W1.cell? ⟨g, 11, none⟩ = some (.slice (some ⟨tb, tof, none⟩) (n + 1) ct) := ((HL0.out.more HG1.out).bk.cell 11).trans rfl
    have i4 : W1.cell? ⟨w.heap.size, 4, none⟩ = some (.int .u64 m) := (HI1.out.cell 4).trans rfl
    have f4 := HI1.out.frozen 4
    have HLt : Hid (L = [⟨19, ia, ib, ic, (T : Int)⟩]) := by
      show _ = _
      rw [HE.out, if_pos (.inr (.inr rfl)), ← hT]; rfl
    clear hct htb hT
    go_wp2_with fail
    go_still_tail 10, (by kernel_rfl)
    go_upto_region 12 with fail
    obtain ⟨V, hV⟩ : ∃ V, (W1.setCell ⟨w.heap.size, 4, none⟩ (.int .u64 T)).drew = V := ⟨_, rfl⟩
    have HI : Hid (Bk V w.heap.size 43 #[.int .i64 19, .int .i64 ia, .int .i64 ib, .int .i64 ic, .int .u64 T]) := by
      show Bk _ _ _ _
      rw [← hV]
      have h := (HI1.out.set_ 4 (.int .u64 T)).drew
      simpa using h
    have HBw2 : Hid (Below w.heap.size w V) := by show Below _ _ _; rw [← hV]; exact (HBw.out.setCell (p := ⟨w.heap.size, 4, none⟩) (Nat.le_refl _) _).drew
    have HL := Lib.hid (HL0.out.more (bk_grown_below HBw2.out))
    have HBV := Lib.hid (HBw2.out.mono (Nat.le_of_lt hg))
    rw [hV]
    clear hV t0 q11 i4 f4 j0 hTw
    have qv0 : V.cell? ⟨g, 0, none⟩ = some (.slice Ao no co) := (HL.out.bk.cell 0).trans rfl
    have iv0 : V.cell? ⟨w.heap.size, 0, none⟩ = some (.int .i64 19) := (HI.out.cell 0).trans rfl
    have iv1 : V.cell? ⟨w.heap.size, 1, none⟩ = some (.int .i64 ia) := (HI.out.cell 1).trans rfl
    have iv2 : V.cell? ⟨w.heap.size, 2, none⟩ = some (.int .i64 ib) := (HI.out.cell 2).trans rfl
    have iv3 : V.cell? ⟨w.heap.size, 3, none⟩ = some (.int .i64 ic) := (HI.out.cell 3).trans rfl
    have iv4 : V.cell? ⟨w.heap.size, 4, none⟩ = some (.int .u64 T) := (HI.out.cell 4).trans rfl
    have HLd := Lib.hid (HL.out.more ((World.grownBy_alloc V (.cells #[.int .i64 19, .int .i64 ia, .int .i64 ib, .int .i64 ic, .int .u64 T] 43) none).trans (grown_drew _ none)))
    have HBd := Lib.hid (HBV.out.trans ((Below.refl g V).alloc (Nat.le_of_lt HL.out.lt) (.cells #[.int .i64 19, .int .i64 ia, .int .i64 ib, .int .i64 ic, .int .u64 T] 43)).drew)
    have HOa := Lib.hid HLd.out.out
    have hz3 : g + 1 ≤ ((V.alloc (.cells #[.int .i64 19, .int .i64 ia, .int .i64 ib, .int .i64 ic, .int .u64 T] 43)).drew).heap.size := HLd.out.lt
    have Ra : Hid (RdI ((V.alloc (.cells #[.int .i64 19, .int .i64 ia, .int .i64 ib, .int .i64 ic, .int .u64 T] 43)).drew) (V.heap.size + 1) (some ⟨V.heap.size, 0, none⟩) 1 [⟨19, ia, ib, ic, T⟩]) := rdI_one V ⟨19, ia, ib, ic, T⟩ _
    have h1 := insCells_one1 ⟨19, ia, ib, ic, T⟩
    have hln : (out).length ≤ 20000 := by have := HNo.out; omega
    have h63b : (out).length + 1 ≤ maxLen := by simp only [maxLen]; omega
    have hb48 : ((out).length + 1) * 40 ≤ 140737488355328 := by omega
    clear hln
    have qd0 : ((V.alloc (.cells #[.int .i64 19, .int .i64 ia, .int .i64 ib, .int .i64 ic, .int .u64 T] 43)).drew).cell? ⟨g, 0, none⟩ = some (.slice Ao no co) := (HLd.out.bk.cell 0).trans rfl
    have hgv : g ≠ V.heap.size := Nat.ne_of_lt HL.out.lt
    have hgv2 : V.heap.size ≠ g := Nat.ne_of_gt HL.out.lt
    go_region_law (
      refine step_app _ (by rfl) (.tmp 83) (.tmp 85) 23 (by rfl) (g + 1) 43 i0 _ 5 40 Try.underlying23 hi0 hz0 hz1 hz2 rfl (by decide) _ _ _ (by rfl) HOa.out _ _ 1 1 _ (by rfl) Ra.out h1 h63b hb48 hz3 ?_
      intro v5 w5 hown5 hg5 hor5
      obtain ⟨A5, c5, hv5, _, _⟩ := Rd.of_own_cap hown5
      subst hv5
      have HO5 := Lib.hid hown5
      have HG5 := Lib.hid hg5
      have hk5 := HLd.out.bk.grown hg5 (HLd.out.bk.ne_own HLd.out.out (by decide))
      have q0 : w5.cell? ⟨g, 0, none⟩ = some (.slice Ao no co) := (hk5.cell 0).trans rfl
      have p0 := hk5.frozen 0
      have HB5 := Lib.hid (HBd.out.trans (below_row HLd.out.out hg5 (Nat.le_of_lt HLd.out.lt)))
      have hg5' := hk5.lt
      clear hown5 hg5 hk5 hor5)
    all_goals
      go_wp2
      go_end0
      rw [HLt.out]
      exact ⟨rfl, ⟨_, LkV.app HLd.out HG5.out HO5.out rfl⟩, HB5.out.setCell (p := ⟨g, 0, none⟩) (Nat.le_refl _) _⟩
  by_cases h8 : op = 8
  · subst h8
    obtain ⟨im0, im1⟩ := HOK.out.arg rfl
    simp only at im0 im1
    obtain ⟨m, rfl⟩ : ∃ m : Nat, imm = (m : Int) := ⟨imm.toNat, by omega⟩
    have hm4 : m < 4 := by omega
    have hm4i : (m : Int) < 4 := by omega
    obtain ⟨kd, vl, hgd, hmem, g2, g3⟩ : ∃ kd vl, [a0, a1, a2, a3].getD m ⟨0, 0⟩ = (⟨kd, vl⟩ : PArg) ∧ (⟨kd, vl⟩ : PArg) ∈ [a0, a1, a2, a3] ∧ W1.cell? ⟨g, 2 + m * 2, none⟩ = some (.int .i64 kd) ∧ W1.cell? ⟨g, 2 + m * 2 + 1, none⟩ = some (.int .u64 vl) := by
      have hbk := (HL0.out.more HG1.out).bk
      have hm5 : m = 0 ∨ m = 1 ∨ m = 2 ∨ m = 3 := by omega
      rcases hm5 with rfl | rfl | rfl | rfl
      · exact ⟨a0.kind, a0.val, rfl, by simp, (hbk.cell 2).trans rfl, (hbk.cell 3).trans rfl⟩
      · exact ⟨a1.kind, a1.val, rfl, by simp, (hbk.cell 4).trans rfl, (hbk.cell 5).trans rfl⟩
      · exact ⟨a2.kind, a2.val, rfl, by simp, (hbk.cell 6).trans rfl, (hbk.cell 7).trans rfl⟩
      · exact ⟨a3.kind, a3.val, rfl, by simp, (hbk.cell 8).trans rfl, (hbk.cell 9).trans rfl⟩
    have hv := HOK.out.ar _ hmem
    obtain ⟨J, hJ⟩ : ∃ J, handedP ia ⟨kd, vl⟩ = J := ⟨_, rfl⟩
    have HLt : Hid (L = [J]) := by
      show _ = _
      rw [HE.out, if_neg (by simp only []; omega), if_pos rfl, show ((m : Int).toNat) = m from rfl, hgd, hJ]
    obtain ⟨jo, ja, jb, jc, ji⟩ := J
    have HH : Hid (∀ W, Calls Try.prog 77 #[.int .i64 ia, .agg #[.int .i64 kd, .int .u64 vl]] W fun e W' => e = .returned (.agg #[.int .i64 jo, .int .i64 ja, .int .i64 jb, .int .i64 jc, .int .u64 ji]) ∧ Below W.heap.size W W') := by
      intro W
      have h := handed_any ia kd vl W hv
      rw [hJ] at h
      exact h
    have i1 : W1.cell? ⟨w.heap.size, 1, none⟩ = some (.int .i64 ia) := (HI1.out.cell 1).trans rfl
    have i4 : W1.cell? ⟨w.heap.size, 4, none⟩ = some (.int .u64 m) := (HI1.out.cell 4).trans rfl
    have d1 : W1.drew.cell? ⟨w.heap.size, 1, none⟩ = some (.int .i64 ia) := i1
    have d4 : W1.drew.cell? ⟨w.heap.size, 4, none⟩ = some (.int .u64 m) := i4
    have d2 : W1.drew.cell? ⟨g, 2 + m * 2, none⟩ = some (.int .i64 kd) := g2
    have d3 : W1.drew.cell? ⟨g, 2 + m * 2 + 1, none⟩ = some (.int .u64 vl) := g3
    clear hgd hmem hv hJ im0 im1
    go_upto_region 7 with fail
    clear j0 i1 i4 g2 g3
    go_region_law (
      go_simp
      go_at_call 77
      refine (HH.out _).mono ?_
      rintro e wn ⟨rfl, hbn⟩
      have HBn := Lib.hid (HBw.out.drew.trans (hbn.mono HBw.out.size))
      have HIn := Lib.hid (HI1.out.drew.below hbn HI1.out.lt)
      have e0 : wn.cell? ⟨w.heap.size, 0, none⟩ = some (.int .i64 8) := (HIn.out.cell 0).trans rfl
      have e1 : wn.cell? ⟨w.heap.size, 1, none⟩ = some (.int .i64 ia) := (HIn.out.cell 1).trans rfl
      have e2 : wn.cell? ⟨w.heap.size, 2, none⟩ = some (.int .i64 ib) := (HIn.out.cell 2).trans rfl
      have e3 : wn.cell? ⟨w.heap.size, 3, none⟩ = some (.int .i64 ic) := (HIn.out.cell 3).trans rfl
      have e4 : wn.cell? ⟨w.heap.size, 4, none⟩ = some (.int .u64 m) := (HIn.out.cell 4).trans rfl
      have f0 := HIn.out.frozen 0
      have f1 := HIn.out.frozen 1
      have f2 := HIn.out.frozen 2
      have f3 := HIn.out.frozen 3
      have f4 := HIn.out.frozen 4
      clear hbn)
    all_goals
      go_upto_region 12 with fail
      obtain ⟨V, hV⟩ : ∃ V, ((((wn.setCell ⟨w.heap.size, 0, none⟩ (.int .i64 jo)).setCell ⟨w.heap.size, 1, none⟩ (.int .i64 ja)).setCell ⟨w.heap.size, 2, none⟩ (.int .i64 jb)).setCell ⟨w.heap.size, 3, none⟩ (.int .i64 jc)).setCell ⟨w.heap.size, 4, none⟩ (.int .u64 ji) = V := ⟨_, rfl⟩
      have HI : Hid (Bk V w.heap.size 43 #[.int .i64 jo, .int .i64 ja, .int .i64 jb, .int .i64 jc, .int .u64 ji]) := by
        show Bk _ _ _ _
        rw [← hV]
        exact HIn.out.five _ _ _ _ _
      have HBw2 : Hid (Below w.heap.size w V) := by show Below _ _ _; rw [← hV]; exact below_five HBn.out (Nat.le_refl _) _ _ _ _ _
      have HL := Lib.hid (HL0.out.more (bk_grown_below HBw2.out))
      have HBV := Lib.hid (HBw2.out.mono (Nat.le_of_lt hg))
      rw [hV]
      clear hV e0 e1 e2 e3 e4 f0 f1 f2 f3 f4 d1 d2 d3 d4
      have qv0 : V.cell? ⟨g, 0, none⟩ = some (.slice Ao no co) := (HL.out.bk.cell 0).trans rfl
      have iv0 : V.cell? ⟨w.heap.size, 0, none⟩ = some (.int .i64 jo) := (HI.out.cell 0).trans rfl
      have iv1 : V.cell? ⟨w.heap.size, 1, none⟩ = some (.int .i64 ja) := (HI.out.cell 1).trans rfl
      have iv2 : V.cell? ⟨w.heap.size, 2, none⟩ = some (.int .i64 jb) := (HI.out.cell 2).trans rfl
      have iv3 : V.cell? ⟨w.heap.size, 3, none⟩ = some (.int .i64 jc) := (HI.out.cell 3).trans rfl
      have iv4 : V.cell? ⟨w.heap.size, 4, none⟩ = some (.int .u64 ji) := (HI.out.cell 4).trans rfl
      have HLd := Lib.hid (HL.out.more ((World.grownBy_alloc V (.cells #[.int .i64 jo, .int .i64 ja, .int .i64 jb, .int .i64 jc, .int .u64 ji] 43) none).trans (grown_drew _ none)))
      have HBd := Lib.hid (HBV.out.trans ((Below.refl g V).alloc (Nat.le_of_lt HL.out.lt) (.cells #[.int .i64 jo, .int .i64 ja, .int .i64 jb, .int .i64 jc, .int .u64 ji] 43)).drew)
      have HOa := Lib.hid HLd.out.out
      have hz3 : g + 1 ≤ ((V.alloc (.cells #[.int .i64 jo, .int .i64 ja, .int .i64 jb, .int .i64 jc, .int .u64 ji] 43)).drew).heap.size := HLd.out.lt
      have Ra : Hid (RdI ((V.alloc (.cells #[.int .i64 jo, .int .i64 ja, .int .i64 jb, .int .i64 jc, .int .u64 ji] 43)).drew) (V.heap.size + 1) (some ⟨V.heap.size, 0, none⟩) 1 [⟨jo, ja, jb, jc, ji⟩]) := rdI_one V ⟨jo, ja, jb, jc, ji⟩ _
      have h1 := insCells_one1 ⟨jo, ja, jb, jc, ji⟩
      have hln : (out).length ≤ 20000 := by have := HNo.out; omega
      have h63b : (out).length + 1 ≤ maxLen := by simp only [maxLen]; omega
      have hb48 : ((out).length + 1) * 40 ≤ 140737488355328 := by omega
      clear hln
      have qd0 : ((V.alloc (.cells #[.int .i64 jo, .int .i64 ja, .int .i64 jb, .int .i64 jc, .int .u64 ji] 43)).drew).cell? ⟨g, 0, none⟩ = some (.slice Ao no co) := (HLd.out.bk.cell 0).trans rfl
      have hgv : g ≠ V.heap.size := Nat.ne_of_lt HL.out.lt
      have hgv2 : V.heap.size ≠ g := Nat.ne_of_gt HL.out.lt
      go_region_law (
        refine step_app _ (by rfl) (.tmp 83) (.tmp 85) 23 (by rfl) (g + 1) 43 i0 _ 5 40 Try.underlying23 hi0 hz0 hz1 hz2 rfl (by decide) _ _ _ (by rfl) HOa.out _ _ 1 1 _ (by rfl) Ra.out h1 h63b hb48 hz3 ?_
        intro v5 w5 hown5 hg5 hor5
        obtain ⟨A5, c5, hv5, _, _⟩ := Rd.of_own_cap hown5
        subst hv5
        have HO5 := Lib.hid hown5
        have HG5 := Lib.hid hg5
        have hk5 := HLd.out.bk.grown hg5 (HLd.out.bk.ne_own HLd.out.out (by decide))
        have q0 : w5.cell? ⟨g, 0, none⟩ = some (.slice Ao no co) := (hk5.cell 0).trans rfl
        have p0 := hk5.frozen 0
        have HB5 := Lib.hid (HBd.out.trans (below_row HLd.out.out hg5 (Nat.le_of_lt HLd.out.lt)))
        have hg5' := hk5.lt
        clear hown5 hg5 hk5 hor5)
      all_goals
        go_wp2
        go_end0
        rw [HLt.out]
        exact ⟨rfl, ⟨_, LkV.app HLd.out HG5.out HO5.out rfl⟩, HB5.out.setCell (p := ⟨g, 0, none⟩) (Nat.le_refl _) _⟩
  by_cases h20 : op = 20
  · subst h20
    obtain ⟨fa0, fa1⟩ := HOK.out.reg
    simp only at fa0 fa1
    have q0 : W1.cell? ⟨g, 0, none⟩ = some (.slice Ao no co) := ((HL0.out.more HG1.out).bk.cell 0).trans rfl
    have q10 : W1.cell? ⟨g, 10, none⟩ = some (.int .i64 kk) := ((HL0.out.more HG1.out).bk.cell 10).trans rfl
    have i1 : W1.cell? ⟨w.heap.size, 1, none⟩ = some (.int .i64 ia) := (HI1.out.cell 1).trans rfl
    have HL := Lib.hid (HL0.out.more HG1.out)
    have HBV := Lib.hid (HBw.out.mono (Nat.le_of_lt hg))
    obtain ⟨KK, hKK⟩ : ∃ KK : Int, 12 + (kk : Int) = KK := ⟨_, rfl⟩
    have HKK := Lib.hid hKK
    have hw12 : IntKind.i64.wrap (12 + (kk : Int)) = KK := by rw [← hKK]; exact IntWalk.i64_in _ (by omega)
    clear hKK
    go_upto_region 9 with fail
    go_cut [4] (fun v wx => v = .pointer (some ⟨w.heap.size, 0, none⟩) ∧ ∃ (A6 : Option Addr) (n6 c6 : Nat), Hid (LkV wx g (.slice A6 n6 c6) (out ++ [⟨1, KK, ia, 0, 0⟩]) (some ⟨b, o, none⟩) n c a0 a1 a2 a3 (kk : Int) (.slice At (n + 1) ct) tos ∧ (Value.slice A6 n6 c6).ownBlock ≠ some w.heap.size ∧ Bk wx w.heap.size 43 #[.int .i64 20, .int .i64 ia, .int .i64 ib, .int .i64 ic, .int .u64 imm] ∧ Below g w wx))
    case first =>
      have HLd := Lib.hid (HL.out.more ((World.grownBy_alloc W1 (.cells #[.int .i64 1, .int .i64 KK, .int .i64 ia, .int .i64 0, .int .u64 0] 43) none).trans (grown_drew _ none)))
      have HBd := Lib.hid (HBV.out.trans ((Below.refl g W1).alloc (Nat.le_of_lt HL.out.lt) (.cells #[.int .i64 1, .int .i64 KK, .int .i64 ia, .int .i64 0, .int .u64 0] 43)).drew)
      have HOa := Lib.hid HLd.out.out
      have hz3 : g + 1 ≤ ((W1.alloc (.cells #[.int .i64 1, .int .i64 KK, .int .i64 ia, .int .i64 0, .int .u64 0] 43)).drew).heap.size := HLd.out.lt
      have Ra : Hid (RdI ((W1.alloc (.cells #[.int .i64 1, .int .i64 KK, .int .i64 ia, .int .i64 0, .int .u64 0] 43)).drew) (W1.heap.size + 1) (some ⟨W1.heap.size, 0, none⟩) 1 [⟨1, KK, ia, 0, 0⟩]) := rdI_one W1 ⟨1, KK, ia, 0, 0⟩ _
      have h1 := insCells_one1 ⟨1, KK, ia, 0, 0⟩
      have hln : (out).length ≤ 20000 := by have := HNo.out; omega
      have h63b : (out).length + 1 ≤ maxLen := by simp only [maxLen]; omega
      have hb48 : ((out).length + 1) * 40 ≤ 140737488355328 := by omega
      clear hln
      have qd0 : ((W1.alloc (.cells #[.int .i64 1, .int .i64 KK, .int .i64 ia, .int .i64 0, .int .u64 0] 43)).drew).cell? ⟨g, 0, none⟩ = some (.slice Ao no co) := (HLd.out.bk.cell 0).trans rfl
      have hgv : g ≠ W1.heap.size := Nat.ne_of_lt HL.out.lt
      have hgv2 : W1.heap.size ≠ g := Nat.ne_of_gt HL.out.lt
      go_region_law (
        refine step_app _ (by rfl) (.tmp 48) (.tmp 57) 23 (by rfl) (g + 1) 43 i0 _ 5 40 Try.underlying23 hi0 hz0 hz1 hz2 rfl (by decide) _ _ _ (by rfl) HOa.out _ _ 1 1 _ (by rfl) Ra.out h1 h63b hb48 hz3 ?_
        intro v5 w5 hown5 hg5 hor5
        obtain ⟨A5, c5, hv5, _, _⟩ := Rd.of_own_cap hown5
        subst hv5
        have HO5 := Lib.hid hown5
        have HG5 := Lib.hid hg5
        have hk5 := HLd.out.bk.grown hg5 (HLd.out.bk.ne_own HLd.out.out (by decide))
        have q0 : w5.cell? ⟨g, 0, none⟩ = some (.slice Ao no co) := (hk5.cell 0).trans rfl
        have p0 := hk5.frozen 0
        have HB5 := Lib.hid (HBd.out.trans (below_row HLd.out.out hg5 (Nat.le_of_lt HLd.out.lt)))
        have hg5' := hk5.lt
        have HI5 := Lib.hid ((HI1.out.alloc (.cells #[.int .i64 1, .int .i64 KK, .int .i64 ia, .int .i64 0, .int .u64 0] 43)).drew.grown hg5 (fun e => absurd (HL0.out.out.lt _ e).2 (Nat.lt_irrefl _)))
        have HN5 : Hid ((Value.slice A5 (out.length + 1) c5).ownBlock ≠ some w.heap.size) := by
          show _ ≠ _
          intro e
          rcases hor5 with h | h
          · rw [e] at h; exact absurd (HL0.out.out.lt _ h.symm).2 (Nat.lt_irrefl _)
          · rw [e] at h; have h := Option.some.inj h; have := HI1.out.lt; simp at h; omega
        clear hown5 hg5 hk5 hor5)
      all_goals
        go_wp2_with fail
        go_meet
        exact ⟨rfl, A5, _, c5, LkV.app HLd.out HG5.out HO5.out rfl, HN5.out, ((HI5.out.set_other (p := ⟨g, 0, none⟩) (Nat.ne_of_lt hg))), HB5.out.setCell (p := ⟨g, 0, none⟩) (Nat.le_refl _) _⟩
    case rest =>
      obtain ⟨rfl, A6, n6, c6, HX6⟩ := hcut
      have HL6 := Lib.hid HX6.out.1
      have HN6 := Lib.hid HX6.out.2.1
      have HI6 := Lib.hid HX6.out.2.2.1
      have HB6 := Lib.hid HX6.out.2.2.2
      clear HX6 j0 q0 q10 i1 hw12
      have k1 : wc.cell? ⟨g, 1, none⟩ = some (.slice (some ⟨b, o, none⟩) n c) := (HL6.out.bk.cell 1).trans rfl
      have hS : sizeL code j = if j + 1 < n then 2 else 1 := by
        unfold sizeL
        rw [List.getD_eq_getElem?_getD, HIc.out, HR0.out.insLen]
        by_cases h : j + 1 < n <;> simp [h]
      have HS := Lib.hid hS
      clear hS
      go_wp2_with fail
      refine (size_any g _ n c code g j _ k1 (HR0.out.below HB6.out) hj (by omega)).mono ?_
      rintro e wd ⟨rfl, rfl⟩
      rw [HS.out]
      by_cases hlt : j + 1 < n
      · rw [if_pos hlt]
        obtain ⟨T, hT⟩ : ∃ T : Nat, at_ + beforeL code n = T := ⟨_, rfl⟩
        have hTw : IntKind.u64.wrap (T : Int) = T := by rw [IntKind.wrap_u64]; omega
        obtain ⟨tb, tof, rfl, htb, hct⟩ := HT0.out.at_ (by omega)
        have t0 : wd.cell? ⟨tb, tof + n, none⟩ = some (.int .i64 T) := by
          obtain ⟨A7, c7, e7, hr7⟩ := Rd.of_own HL6.out.tos
          injection e7 with e71 e72 e73
          subst e71
          obtain ⟨tb7, tof7, e8, _, hct7⟩ := hr7.at_ (by rw [HTo.out]; omega)
          cases e8
          exact hct7 n _ (by rw [ints_at (by rw [HTo.out]; omega), HAt.out n (Nat.le_refl _), hT])
        have q11 : wd.cell? ⟨g, 11, none⟩ = some (.slice (some ⟨tb, tof, none⟩) (n + 1) ct) := (HL6.out.bk.cell 11).trans rfl
        have hni : (n : Int) < (n : Int) + 1 := by omega
        have f0 := HI6.out.frozen 0
        have f1 := HI6.out.frozen 1
        have f2 := HI6.out.frozen 2
        have f3 := HI6.out.frozen 3
        have f4 := HI6.out.frozen 4
        have i0_ : wd.cell? ⟨w.heap.size, 0, none⟩ = some (.int .i64 20) := (HI6.out.cell 0).trans rfl
        have i1_ : wd.cell? ⟨w.heap.size, 1, none⟩ = some (.int .i64 ia) := (HI6.out.cell 1).trans rfl
        have i2_ : wd.cell? ⟨w.heap.size, 2, none⟩ = some (.int .i64 ib) := (HI6.out.cell 2).trans rfl
        have i3_ : wd.cell? ⟨w.heap.size, 3, none⟩ = some (.int .i64 ic) := (HI6.out.cell 3).trans rfl
        have i4_ : wd.cell? ⟨w.heap.size, 4, none⟩ = some (.int .u64 imm) := (HI6.out.cell 4).trans rfl
        have HLt : Hid (L = [⟨1, KK, ia, 0, 0⟩, ⟨17, 0, 0, 0, (T : Int)⟩]) := by
          show _ = _
          rw [HE.out]
          simp [hlt, ← hT, ← HKK.out]
        clear hct htb hT
        go_wp2_with fail
        go_still_tail 14, (by kernel_rfl)
        go_upto_region 12 with fail
        obtain ⟨V, hV⟩ : ∃ V, (((((wd.setCell ⟨w.heap.size, 0, none⟩ (.int .i64 17)).setCell ⟨w.heap.size, 1, none⟩ (.int .i64 0)).setCell ⟨w.heap.size, 2, none⟩ (.int .i64 0)).setCell ⟨w.heap.size, 3, none⟩ (.int .i64 0)).setCell ⟨w.heap.size, 4, none⟩ (.int .u64 T)).drew = V := ⟨_, rfl⟩
        have HI : Hid (Bk V w.heap.size 43 #[.int .i64 17, .int .i64 0, .int .i64 0, .int .i64 0, .int .u64 T]) := by
          show Bk _ _ _ _
          rw [← hV]
          exact (HI6.out.five _ _ _ _ _).drew
        have hgv : wd.grownBy V (some w.heap.size) := by rw [← hV]; exact (grown_five _ _ _ _ _ _ _).trans (grown_drew _ _)
        have HL := Lib.hid (HL6.out.at_u hgv (Nat.ne_of_gt hg) HN6.out (fun e => absurd (HL0.out.tos.lt _ e).2 (Nat.lt_irrefl _)))
        have HBV := Lib.hid (HB6.out.grown hgv (Nat.le_of_lt HL6.out.lt) (fun k e => by cases e; exact Nat.le_of_lt hg))
        rw [hV]
        clear hV hgv t0 q11 f0 f1 f2 f3 f4 i0_ i1_ i2_ i3_ i4_ hTw k1
        have qv0 : V.cell? ⟨g, 0, none⟩ = some (.slice A6 n6 c6) := (HL.out.bk.cell 0).trans rfl
        have iv0 : V.cell? ⟨w.heap.size, 0, none⟩ = some (.int .i64 17) := (HI.out.cell 0).trans rfl
        have iv1 : V.cell? ⟨w.heap.size, 1, none⟩ = some (.int .i64 0) := (HI.out.cell 1).trans rfl
        have iv2 : V.cell? ⟨w.heap.size, 2, none⟩ = some (.int .i64 0) := (HI.out.cell 2).trans rfl
        have iv3 : V.cell? ⟨w.heap.size, 3, none⟩ = some (.int .i64 0) := (HI.out.cell 3).trans rfl
        have iv4 : V.cell? ⟨w.heap.size, 4, none⟩ = some (.int .u64 T) := (HI.out.cell 4).trans rfl
        have HLd := Lib.hid (HL.out.more ((World.grownBy_alloc V (.cells #[.int .i64 17, .int .i64 0, .int .i64 0, .int .i64 0, .int .u64 T] 43) none).trans (grown_drew _ none)))
        have HBd := Lib.hid (HBV.out.trans ((Below.refl g V).alloc (Nat.le_of_lt HL.out.lt) (.cells #[.int .i64 17, .int .i64 0, .int .i64 0, .int .i64 0, .int .u64 T] 43)).drew)
        have HOa := Lib.hid HLd.out.out
        have hz3 : g + 1 ≤ ((V.alloc (.cells #[.int .i64 17, .int .i64 0, .int .i64 0, .int .i64 0, .int .u64 T] 43)).drew).heap.size := HLd.out.lt
        have Ra : Hid (RdI ((V.alloc (.cells #[.int .i64 17, .int .i64 0, .int .i64 0, .int .i64 0, .int .u64 T] 43)).drew) (V.heap.size + 1) (some ⟨V.heap.size, 0, none⟩) 1 [⟨17, 0, 0, 0, T⟩]) := rdI_one V ⟨17, 0, 0, 0, T⟩ _
        have h1 := insCells_one1 ⟨17, 0, 0, 0, T⟩
        have hln : ((out ++ [(⟨1, KK, ia, 0, 0⟩ : Ins)])).length ≤ 20000 := by have := HNo.out; simp; omega
        have h63b : ((out ++ [(⟨1, KK, ia, 0, 0⟩ : Ins)])).length + 1 ≤ maxLen := by simp only [maxLen]; omega
        have hb48 : (((out ++ [(⟨1, KK, ia, 0, 0⟩ : Ins)])).length + 1) * 40 ≤ 140737488355328 := by omega
        clear hln
        have qd0 : ((V.alloc (.cells #[.int .i64 17, .int .i64 0, .int .i64 0, .int .i64 0, .int .u64 T] 43)).drew).cell? ⟨g, 0, none⟩ = some (.slice A6 n6 c6) := (HLd.out.bk.cell 0).trans rfl
        have hgv : g ≠ V.heap.size := Nat.ne_of_lt HL.out.lt
        have hgv2 : V.heap.size ≠ g := Nat.ne_of_gt HL.out.lt
        go_region_law (
          refine step_app _ (by rfl) (.tmp 83) (.tmp 85) 23 (by rfl) (g + 1) 43 i0 _ 5 40 Try.underlying23 hi0 hz0 hz1 hz2 rfl (by decide) _ _ _ (by rfl) HOa.out _ _ 1 1 _ (by rfl) Ra.out h1 h63b hb48 hz3 ?_
          intro v5 w5 hown5 hg5 hor5
          obtain ⟨A5, c5, hv5, _, _⟩ := Rd.of_own_cap hown5
          subst hv5
          have HO5 := Lib.hid hown5
          have HG5 := Lib.hid hg5
          have hk5 := HLd.out.bk.grown hg5 (HLd.out.bk.ne_own HLd.out.out (by decide))
          have q0 : w5.cell? ⟨g, 0, none⟩ = some (.slice A6 n6 c6) := (hk5.cell 0).trans rfl
          have p0 := hk5.frozen 0
          have HB5 := Lib.hid (HBd.out.trans (below_row HLd.out.out hg5 (Nat.le_of_lt HLd.out.lt)))
          have hg5' := hk5.lt
          clear hown5 hg5 hk5 hor5)
        all_goals
          go_wp2
          go_end0
          rw [HLt.out]
          exact ⟨rfl, ⟨_, by rw [show out ++ [⟨1, KK, ia, 0, 0⟩, ⟨17, 0, 0, 0, (T : Int)⟩] = (out ++ [(⟨1, KK, ia, 0, 0⟩ : Ins)]) ++ [⟨17, 0, 0, 0, (T : Int)⟩] by simp]; exact LkV.app HLd.out HG5.out (by have h := HO5.out; rw [show Value.slice A5 ((out ++ [(⟨1, KK, ia, 0, 0⟩ : Ins)]).length + 1) c5 = Value.slice A5 (out.length + 1 + 1) c5 by simp] at h; exact h) rfl⟩, HB5.out.setCell (p := ⟨g, 0, none⟩) (Nat.le_refl _) _⟩
      · rw [if_neg hlt]
        have HLt : Hid (L = [⟨1, KK, ia, 0, 0⟩]) := by
          show _ = _
          rw [HE.out]
          simp [hlt, ← HKK.out]
        go_wp2
        go_end0
        rw [HLt.out]
        exact ⟨rfl, ⟨_, HL6.out⟩, HB6.out⟩
  have e17 : (op == 17) = false := by simpa using h17
  have e18 : (op == 18) = false := by simpa using h18
  have e19 : (op == 19) = false := by simpa using h19
  have e8 : (op == 8) = false := by simpa using h8
  have e20 : (op == 20) = false := by simpa using h20
  have HLt : Hid (L = [⟨op, ia, ib, ic, imm⟩]) := by
    show _ = _
    rw [HE.out, if_neg (by simp only []; omega), if_neg h8, if_neg h20]
  go_upto_region 12 with fail
  obtain ⟨V, hV⟩ : ∃ V, W1 = V := ⟨_, rfl⟩
  have HI : Hid (Bk V w.heap.size 43 #[.int .i64 op, .int .i64 ia, .int .i64 ib, .int .i64 ic, .int .u64 imm]) := by rw [← hV]; exact HI1
  have HL : Hid (LkV V g (.slice Ao no co) out (some ⟨b, o, none⟩) n c a0 a1 a2 a3 (kk : Int) (.slice At (n + 1) ct) tos) := by rw [← hV]; exact HL0.out.more HG1.out
  have HBV : Hid (Below g w V) := by rw [← hV]; exact HBw.out.mono (Nat.le_of_lt hg)
  rw [hV]
  clear hV j0
  have qv0 : V.cell? ⟨g, 0, none⟩ = some (.slice Ao no co) := (HL.out.bk.cell 0).trans rfl
  have iv0 : V.cell? ⟨w.heap.size, 0, none⟩ = some (.int .i64 op) := (HI.out.cell 0).trans rfl
  have iv1 : V.cell? ⟨w.heap.size, 1, none⟩ = some (.int .i64 ia) := (HI.out.cell 1).trans rfl
  have iv2 : V.cell? ⟨w.heap.size, 2, none⟩ = some (.int .i64 ib) := (HI.out.cell 2).trans rfl
  have iv3 : V.cell? ⟨w.heap.size, 3, none⟩ = some (.int .i64 ic) := (HI.out.cell 3).trans rfl
  have iv4 : V.cell? ⟨w.heap.size, 4, none⟩ = some (.int .u64 imm) := (HI.out.cell 4).trans rfl
  have HLd := Lib.hid (HL.out.more ((World.grownBy_alloc V (.cells #[.int .i64 op, .int .i64 ia, .int .i64 ib, .int .i64 ic, .int .u64 imm] 43) none).trans (grown_drew _ none)))
  have HBd := Lib.hid (HBV.out.trans ((Below.refl g V).alloc (Nat.le_of_lt HL.out.lt) (.cells #[.int .i64 op, .int .i64 ia, .int .i64 ib, .int .i64 ic, .int .u64 imm] 43)).drew)
  have HOa := Lib.hid HLd.out.out
  have hz3 : g + 1 ≤ ((V.alloc (.cells #[.int .i64 op, .int .i64 ia, .int .i64 ib, .int .i64 ic, .int .u64 imm] 43)).drew).heap.size := HLd.out.lt
  have Ra : Hid (RdI ((V.alloc (.cells #[.int .i64 op, .int .i64 ia, .int .i64 ib, .int .i64 ic, .int .u64 imm] 43)).drew) (V.heap.size + 1) (some ⟨V.heap.size, 0, none⟩) 1 [⟨op, ia, ib, ic, imm⟩]) := rdI_one V ⟨op, ia, ib, ic, imm⟩ _
  have h1 := insCells_one1 ⟨op, ia, ib, ic, imm⟩
  have hln : (out).length ≤ 20000 := by have := HNo.out; omega
  have h63b : (out).length + 1 ≤ maxLen := by simp only [maxLen]; omega
  have hb48 : ((out).length + 1) * 40 ≤ 140737488355328 := by omega
  clear hln
  have qd0 : ((V.alloc (.cells #[.int .i64 op, .int .i64 ia, .int .i64 ib, .int .i64 ic, .int .u64 imm] 43)).drew).cell? ⟨g, 0, none⟩ = some (.slice Ao no co) := (HLd.out.bk.cell 0).trans rfl
  have hgv : g ≠ V.heap.size := Nat.ne_of_lt HL.out.lt
  have hgv2 : V.heap.size ≠ g := Nat.ne_of_gt HL.out.lt
  go_region_law (
    refine step_app _ (by rfl) (.tmp 83) (.tmp 85) 23 (by rfl) (g + 1) 43 i0 _ 5 40 Try.underlying23 hi0 hz0 hz1 hz2 rfl (by decide) _ _ _ (by rfl) HOa.out _ _ 1 1 _ (by rfl) Ra.out h1 h63b hb48 hz3 ?_
    intro v5 w5 hown5 hg5 hor5
    obtain ⟨A5, c5, hv5, _, _⟩ := Rd.of_own_cap hown5
    subst hv5
    have HO5 := Lib.hid hown5
    have HG5 := Lib.hid hg5
    have hk5 := HLd.out.bk.grown hg5 (HLd.out.bk.ne_own HLd.out.out (by decide))
    have q0 : w5.cell? ⟨g, 0, none⟩ = some (.slice Ao no co) := (hk5.cell 0).trans rfl
    have p0 := hk5.frozen 0
    have HB5 := Lib.hid (HBd.out.trans (below_row HLd.out.out hg5 (Nat.le_of_lt HLd.out.lt)))
    have hg5' := hk5.lt
    clear hown5 hg5 hk5 hor5)
  all_goals
    go_wp2
    go_end0
    rw [HLt.out]
    exact ⟨rfl, ⟨_, LkV.app HLd.out HG5.out HO5.out rfl⟩, HB5.out.setCell (p := ⟨g, 0, none⟩) (Nat.le_refl _) _⟩
end Go.Proofs.Ytddaeaimimdonaa
