/-
  Chapter 6: contracts of model.Of. Printed by gen/modt.py.
-/
import Derived.Test.YtddaeaimimdonaaModI
import Derived.Laws.IdiomRangeMap
namespace Go.Proofs.Ytddaeaimimdonaa
open Go.RowKit Go.Maps
set_option linter.unusedVariables false

theorem OwnB.congr {w : World} {P : Program} {K : TypeId} {b n : Nat} {f g : Int → Option (List Int)} (h : OwnB w P K b n f) (hfg : ∀ x, U64 x → g x = f x) : OwnB w P K b n g := by
  obtain ⟨D, h, hv⟩ := h
  exact ⟨D, h, fun x hx => by rw [hfg x hx]; exact hv x hx⟩
/-- All of it, but none of the handle 0. -/
def noZero (f : Int → Option (List Int)) : Int → Option (List Int) := fun x => if x = 0 then none else f x
/-- What has been put so far. -/
def putF (D : DataW Unit) (left : Lit → Bool) (f : Int → Option (List Int)) : Int → Option (List Int) := fun x => if x = 0 ∨ Maps.has D (.int .u64 x) = false ∨ left (.int .u64 x) = true then none else f x
theorem putF_start (D : DataW Unit) (f : Int → Option (List Int)) (x : Int) : putF D (Maps.has D) f x = none := by
  unfold putF
  rw [if_pos]
  cases h : Maps.has D (.int .u64 x)
  · exact .inr (.inl rfl)
  · exact .inr (.inr rfl)
theorem putF_end {D : DataW Unit} {left : Lit → Bool} {f : Int → Option (List Int)} (v : Val D f) (hl : ∀ k, left k = false) {x : Int} (hx : U64 x) : noZero f x = putF D left f x := by
  unfold noZero putF
  rw [hl]
  by_cases h0 : x = 0
  · simp [h0]
  · rw [if_neg h0]
    rcases v x hx with ⟨h1, h2⟩ | ⟨ws, h1, _, h2, _⟩
    · rw [h1]; split <;> rfl
    · rw [if_neg (by simp [h0, h2])]
theorem strike_ne {left : Lit → Bool} {x k : Int} (h : x ≠ k) : (left (.int .u64 x) && !(Lit.int .u64 x).sameKey (.int .u64 k)) = left (.int .u64 x) := by
  have : (Lit.int .u64 x).sameKey (.int .u64 k) = false := by
    cases hs : (Lit.int .u64 x).sameKey (.int .u64 k) with
    | false => rfl
    | true =>
      have e := WideAt.sameKey_eq hs
      injection e with _ e
      exact absurd e h
  rw [this]; simp
theorem strike_self (left : Lit → Bool) (k : Int) : (left (.int .u64 k) && !(Lit.int .u64 k).sameKey (.int .u64 k)) = false := by
  have hself : (Lit.int .u64 k).sameKey (.int .u64 k) = true := WideAt.sameKey_self (by first | exact trivial | exact ⟨_, _, rfl⟩ | simp [WideAt.IsKeyLit])
  rw [hself]; simp
theorem putF_zero {D : DataW Unit} {left : Lit → Bool} {f : Int → Option (List Int)} (x : Int) : putF D (fun z => left z && !z.sameKey (.int .u64 0)) f x = putF D left f x := by
  unfold putF
  by_cases h0 : x = 0
  · simp [h0]
  · simp only [strike_ne h0]
theorem putF_step {D : DataW Unit} {left : Lit → Bool} {f : Int → Option (List Int)} {k : Int} {ws : List Int} (hk0 : k ≠ 0) (hh : Maps.has D (.int .u64 k) = true) (hf : f k = some ws) (x : Int) :
    putF D (fun z => left z && !z.sameKey (.int .u64 k)) f x = if x = k then some ws else putF D left f x := by
  unfold putF
  by_cases hx : x = k
  · subst hx
    simp only [strike_self]
    rw [if_neg (by simp [hk0, hh]), hf]; simp
  · rw [if_neg hx]
    simp only [strike_ne hx]
structure OfAt (w wr : World) (sb mb n : Nat) (roots : List Int) (g : Int → Option (List Int)) : Prop where
  st : Bk wr sb 86 (stCells roots mb).toArray
  map : OwnB wr Try.prog 24 mb n g
  bs : w.heap.size ≤ sb
  bm : w.heap.size ≤ mb
  below : Below w.heap.size w wr
def OfPost (roots : List Int) (f : Int → Option (List Int)) (n : Nat) (w : World) (e : Ending) (w' : World) : Prop :=
  ∃ sb mb, e = .returned (.pointer (some ⟨sb, 0, none⟩)) ∧ StIn w' w.heap.size n sb mb ⟨roots, noZero f⟩ ∧ Below w.heap.size w w'
set_option maxRecDepth 100000 in
set_option maxHeartbeats 8000000 in
theorem mof_any (roots : List Int) (mb n : Nat) (f : Int → Option (List Int)) (w : World) (hr : roots.length = 16) (h : OwnB w Try.prog 24 mb n f) (hn : n ≤ 1000000000) :
    Calls Try.prog 25 #[.agg (u64s roots).toArray, .map (some mb)] w (OfPost roots f n w) := by
  obtain ⟨D1, o1, v1'⟩ := h
  have v1 : Val D1 f := v1'
  have HV1 := Lib.hid v1
  have HO1 := Lib.hid o1
  have hsz1 := o1.size_le
  have hKu := Try.underlying24
  obtain ⟨z0, z1, z2, z3, z4, z5, z6, z7, z8, z9, z10, z11, z12, z13, z14, z15, hz⟩ := sixteen hr
  rw [hz]
  have HZ := Lib.hid hz
  have hmm := @run_makeMap Try.prog
  simp only [u64s, List.map_cons, List.map_nil]
  clear v1' v1 o1 hz
  go_enter Try.func25, Try.ntmps25
  go_upto_region 2 with fail
  obtain ⟨W, hW⟩ : ∃ W, ((w.alloc (.cells #[.int .u64 z0, .int .u64 z1, .int .u64 z2, .int .u64 z3, .int .u64 z4, .int .u64 z5, .int .u64 z6, .int .u64 z7, .int .u64 z8, .int .u64 z9, .int .u64 z10, .int .u64 z11, .int .u64 z12, .int .u64 z13, .int .u64 z14, .int .u64 z15] 52)).alloc (.map #[] 0)).alloc (.cells #[.int .u64 z0, .int .u64 z1, .int .u64 z2, .int .u64 z3, .int .u64 z4, .int .u64 z5, .int .u64 z6, .int .u64 z7, .int .u64 z8, .int .u64 z9, .int .u64 z10, .int .u64 z11, .int .u64 z12, .int .u64 z13, .int .u64 z14, .int .u64 z15, .map (some (w.heap.size + 1))] 86) = W := ⟨_, rfl⟩
  have hst : Bk W (w.heap.size + 2) 86 (stCells roots (w.heap.size + 1)).toArray := by
    rw [← hW, HZ.out]
    have := Bk.new ((w.alloc (.cells #[.int .u64 z0, .int .u64 z1, .int .u64 z2, .int .u64 z3, .int .u64 z4, .int .u64 z5, .int .u64 z6, .int .u64 z7, .int .u64 z8, .int .u64 z9, .int .u64 z10, .int .u64 z11, .int .u64 z12, .int .u64 z13, .int .u64 z14, .int .u64 z15] 52)).alloc (.map #[] 0)) 86 #[.int .u64 z0, .int .u64 z1, .int .u64 z2, .int .u64 z3, .int .u64 z4, .int .u64 z5, .int .u64 z6, .int .u64 z7, .int .u64 z8, .int .u64 z9, .int .u64 z10, .int .u64 z11, .int .u64 z12, .int .u64 z13, .int .u64 z14, .int .u64 z15, .map (some (w.heap.size + 1))]
    simpa [stCells] using this
  have hmp : OwnB W Try.prog 24 (w.heap.size + 1) 0 fun _ => none := by
    rw [← hW]
    have := OwnB.made (w.alloc (.cells #[.int .u64 z0, .int .u64 z1, .int .u64 z2, .int .u64 z3, .int .u64 z4, .int .u64 z5, .int .u64 z6, .int .u64 z7, .int .u64 z8, .int .u64 z9, .int .u64 z10, .int .u64 z11, .int .u64 z12, .int .u64 z13, .int .u64 z14, .int .u64 z15] 52)) Try.prog 24
    rw [World.size_alloc] at this
    exact this.alloc _
  have hbw : Below w.heap.size w W := by rw [← hW]; exact (((Below.refl _ _).alloc (Nat.le_refl _) _).alloc (by simp) _).alloc (by simp; omega) _
  have hzW : W.heap.size = w.heap.size + 3 := by rw [← hW]; simp
  rw [hW]
  have HOW : Hid (W.ownsMap Try.prog 24 blkR mb n D1) := HO1.out.kept (row := none) ⟨hbw.os, hbw.tape, hbw.output, hbw.size, fun k hk _ => hbw.block k hk⟩ (by simp)
  have HST := Lib.hid hst
  have HMP := Lib.hid hmp
  have HBW := Lib.hid hbw
  have HZW := Lib.hid hzW
  have hmlt := HO1.out.lt
  obtain ⟨sb, hsb⟩ : ∃ sb, w.heap.size + 2 = sb := ⟨_, rfl⟩
  rw [hsb] at HST ⊢
  obtain ⟨ms, hms⟩ : ∃ ms, w.heap.size + 1 = ms := ⟨_, rfl⟩
  rw [hms] at HST HMP ⊢
  clear hW hst hmp hbw hzW hmm
  go_wp2_with (first
    | (at_range; refine wpList_range_own _ rfl _ 54 rfl 24 47 (int_keyed hKu) Try.underlying54 blkR mb n _ rfl HOW.out ?_; intro w0 hrg0 hg0 hs0)
    | go_in)
  go_frame
  go_loopw [6, 7] (fun _a _b wr => ∃ (left : Lit → Bool) (cnt nn : Nat), wr.ranges Try.prog 24 blkR mb W.heap.size n D1 left cnt ∧ Hid (OfAt w wr sb ms nn roots (putF D1 left f)) ∧ nn + cnt ≤ Maps.size D1)
    (fun _ _ wr => wr.rangeLeft mb W.heap.size)
  case atStart =>
    refine ⟨_, _, 0, hrg0, ⟨HST.out.grown hg0 (by simp), (HMP.out.kept hg0 (by simp)).congr fun x _ => putF_start D1 f x, by omega, by omega, HBW.out.grown hg0 HBW.out.size (fun k e => by cases e)⟩, by omega⟩
  case round =>
    obtain ⟨left, cnt, nn, hrg, HAt, hnn⟩ := hrel
    go_wp2_with (first
      | (at_next; refine wpList_next_ranges _ rfl _ rfl 24 (int_keyed hKu) blkR id id (fun key _ _ => ⟨key, rfl⟩) (fun v _ _ => ⟨v, rfl⟩) mb W.heap.size n _ _ _ rfl hrg ?_ ?_)
      | go_in)
    · intro _ hl0
      go_wp2
      go_ret
      exact ⟨sb, ms, rfl, ⟨by have := HAt.out.st; rw [HZ.out] at this; exact this, (HAt.out.map.mono (by omega)).congr fun x hx => putF_end HV1.out hl0 hx, rfl, HAt.out.bs, HAt.out.bm⟩, HAt.out.below⟩
    · intro x c kl yd yp w1 cnt1 hkey hlx hv hat hrg1 hlt hg1 hs1 hen
      obtain ⟨k, rfl, rfl, hkw⟩ := Maps.keyOf_int_inv hKu hkey
      obtain ⟨x0, x1, x2, x3, x4, x5, x6, x7, rfl, hy⟩ := blkR_lits hv
      have hk := u64_of_wf hkw
      have hhas : Maps.has D1 (.int .u64 k) = true := Maps.has_true_of_atKey hat
      have hf : Hid (f k = some [x0, x1, x2, x3, x4, x5, x6, x7]) := by
        show _ = _
        obtain ⟨ws, e1, e2, e3⟩ := HV1.out.got hk hhas
        have := (e3 (blkD zero8)).symm.trans (hat (blkD zero8))
        rw [show (yd : DataW Unit) = blkD [x0, x1, x2, x3, x4, x5, x6, x7] from hy] at this
        rw [e1, blkD_inj this]
      have hRne : W.heap.size ≠ sb ∧ W.heap.size ≠ ms := by have := HZW.out; omega
      have hAt1 : OfAt w w1 sb ms nn roots (putF D1 left f) := ⟨HAt.out.st.grown hg1 (by simpa using hRne.1), HAt.out.map.kept hg1 (by simpa using fun e => hRne.2 e.symm), HAt.out.bs, HAt.out.bm, HAt.out.below.grown hg1 HAt.out.below.size (fun j e => by cases e; have := HZW.out; omega)⟩
      clear hs1
      go_upto_region 5 with fail
      obtain ⟨w2, hw2⟩ : ∃ w2, w1.alloc (.cells #[.int .u64 x0, .int .u64 x1, .int .u64 x2, .int .u64 x3, .int .u64 x4, .int .u64 x5, .int .u64 x6, .int .u64 x7] 47) = w2 := ⟨_, rfl⟩
      rw [hw2]
      have hg2 : w1.grownBy w2 none := by rw [← hw2]; exact World.grownBy_alloc _ _ _
      have hAt2 : OfAt w w2 sb ms nn roots (putF D1 left f) := ⟨hAt1.st.grown hg2 (by simp), hAt1.map.kept hg2 (by simp), hAt1.bs, hAt1.bm, hAt1.below.grown hg2 hAt1.below.size (fun j e => by cases e)⟩
      have hX2 : Bk w2 w1.heap.size 47 #[.int .u64 x0, .int .u64 x1, .int .u64 x2, .int .u64 x3, .int .u64 x4, .int .u64 x5, .int .u64 x6, .int .u64 x7] := by rw [← hw2]; exact Bk.new _ _ _
      have hrg2 := hrg1.kept hg2 (by simp) (by simp)
      have HRG2 := Lib.hid hrg2
      have HAT2 := Lib.hid hAt2
      have HX2 := Lib.hid hX2
      have HLT := Lib.hid hlt
      have HRG := Lib.hid hrg
      have HRG1 := Lib.hid hrg1
      have HHas := Lib.hid hhas
      have HK := Lib.hid hk
      clear hrg1 hlt hat hrg hg1 hy hv hkey hAt1 hg2 hAt2 hX2 hrg2 hhas hk hw2 hlx hen
      by_cases hk0 : k = 0
      · have e0 : (k != 0) = false := by simpa using hk0
        have HP : Hid (∀ x, putF D1 (fun z => left z && !z.sameKey (.int .u64 k)) f x = putF D1 left f x) := by subst hk0; exact fun x => putF_zero x
        clear hk0
        go_wp2
        go_roundw
        case rel => exact ⟨_, cnt1, nn, HRG2.out, ⟨HAT2.out.st, HAT2.out.map.congr fun x _ => HP.out x, HAT2.out.bs, HAT2.out.bm, HAT2.out.below⟩, by have := HLT.out; omega⟩
        case measure => rw [HRG2.out.left_eq, HRG.out.left_eq]; exact HLT.out
      · have e0 : (k != 0) = true := by simpa using hk0
        have HP : Hid (∀ x, putF D1 (fun z => left z && !z.sameKey (.int .u64 k)) f x = if x = k then some [x0, x1, x2, x3, x4, x5, x6, x7] else putF D1 left f x) := fun x => putF_step hk0 HHas.out hf.out x
        clear hk0
        have kM : w2.cell? ⟨sb, 16, none⟩ = some (.map (some ms)) := by
          rw [HAT2.out.st.cell, HZ.out]; rfl
        have c0 : w2.cell? ⟨w1.heap.size, 0, none⟩ = some (.int .u64 x0) := (HX2.out.cell 0).trans rfl
        have c1 : w2.cell? ⟨w1.heap.size, 1, none⟩ = some (.int .u64 x1) := (HX2.out.cell 1).trans rfl
        have c2 : w2.cell? ⟨w1.heap.size, 2, none⟩ = some (.int .u64 x2) := (HX2.out.cell 2).trans rfl
        have c3 : w2.cell? ⟨w1.heap.size, 3, none⟩ = some (.int .u64 x3) := (HX2.out.cell 3).trans rfl
        have c4 : w2.cell? ⟨w1.heap.size, 4, none⟩ = some (.int .u64 x4) := (HX2.out.cell 4).trans rfl
        have c5 : w2.cell? ⟨w1.heap.size, 5, none⟩ = some (.int .u64 x5) := (HX2.out.cell 5).trans rfl
        have c6 : w2.cell? ⟨w1.heap.size, 6, none⟩ = some (.int .u64 x6) := (HX2.out.cell 6).trans rfl
        have c7 : w2.cell? ⟨w1.heap.size, 7, none⟩ = some (.int .u64 x7) := (HX2.out.cell 7).trans rfl
        have hnN : nn < maxLen := by unfold maxLen; omega
        go_upto_region 6 with fail
        go_still_tail 6, (by kernel_rfl)
        refine wpList_store_blk _ (by rfl) (.tmp 24) (.tmp 25) (.tmp 26) 54 (by rfl) 24 47 hKu Try.underlying54 ms nn (putF D1 left f) (by rfl) HAT2.out.map.drew hnN k (by rfl) HK.out [x0, x1, x2, x3, x4, x5, x6, x7] (by rfl) rfl ?_
        intro w3 hown3 hg3
        have hg23 : w2.grownBy w3 (some ms) := (grown_drew _ _).trans hg3
        have hms : ms ≠ sb := by have := HZW.out; omega
        have HAT3 : Hid (OfAt w w3 sb ms (nn + 1) roots (putF D1 (fun z => left z && !z.sameKey (.int .u64 k)) f)) :=
          ⟨HAT2.out.st.grown hg23 (by simpa using hms), hown3.congr fun x _ => HP.out x, HAT2.out.bs, HAT2.out.bm, HAT2.out.below.grown hg23 HAT2.out.below.size (fun j e => by cases e; exact HAT2.out.bm)⟩
        have HRG3 := Lib.hid (HRG2.out.kept hg23 (by have := HO1.out.lt; have := HAT2.out.bm; simp; omega) (by have := HZW.out; simp; omega))
        clear hown3 hg3 hg23 c0 c1 c2 c3 c4 c5 c6 c7 kM
        go_wp2
        go_roundw
        case rel =>
          (repeat apply Exists.intro)
          refine And.intro ?_ rfl
          exact ⟨_, cnt1, nn + 1, HRG3.out, HAT3, by have := HLT.out; omega⟩
        case measure => rw [HRG3.out.left_eq, HRG.out.left_eq]; exact HLT.out
set_option maxRecDepth 100000 in
set_option maxHeartbeats 4000000 in
/-- Of no map at all. -/
theorem mof_nil (roots : List Int) (w : World) (hr : roots.length = 16) :
    Calls Try.prog 25 #[.agg (u64s roots).toArray, .map none] w (OfPost roots (fun _ => none) 0 w) := by
  obtain ⟨z0, z1, z2, z3, z4, z5, z6, z7, z8, z9, z10, z11, z12, z13, z14, z15, hz⟩ := sixteen hr
  rw [hz]
  have hmm := @run_makeMap Try.prog
  have hrg := fun W => run_range_nilMap (P := Try.prog) W 54 24 47 Try.underlying54
  have hnx : ∀ (W : World) ty, (Instr.next (.pointer (some ⟨W.heap.size, 0, none⟩)) false ty).run Try.prog (W.alloc (.mapIter none 0 #[] 0)) = _ := fun W ty => run_next_nilMap W ty 0 0 #[]
  simp only [u64s, List.map_cons, List.map_nil]
  clear hz hr
  go_enter Try.func25, Try.ntmps25
  go_upto_region 2 with fail
  obtain ⟨W, hW⟩ : ∃ W, ((w.alloc (.cells #[.int .u64 z0, .int .u64 z1, .int .u64 z2, .int .u64 z3, .int .u64 z4, .int .u64 z5, .int .u64 z6, .int .u64 z7, .int .u64 z8, .int .u64 z9, .int .u64 z10, .int .u64 z11, .int .u64 z12, .int .u64 z13, .int .u64 z14, .int .u64 z15] 52)).alloc (.map #[] 0)).alloc (.cells #[.int .u64 z0, .int .u64 z1, .int .u64 z2, .int .u64 z3, .int .u64 z4, .int .u64 z5, .int .u64 z6, .int .u64 z7, .int .u64 z8, .int .u64 z9, .int .u64 z10, .int .u64 z11, .int .u64 z12, .int .u64 z13, .int .u64 z14, .int .u64 z15, .map (some (w.heap.size + 1))] 86) = W := ⟨_, rfl⟩
  have hst : Bk W (w.heap.size + 2) 86 #[.int .u64 z0, .int .u64 z1, .int .u64 z2, .int .u64 z3, .int .u64 z4, .int .u64 z5, .int .u64 z6, .int .u64 z7, .int .u64 z8, .int .u64 z9, .int .u64 z10, .int .u64 z11, .int .u64 z12, .int .u64 z13, .int .u64 z14, .int .u64 z15, .map (some (w.heap.size + 1))] := by
    rw [← hW]
    have := Bk.new ((w.alloc (.cells #[.int .u64 z0, .int .u64 z1, .int .u64 z2, .int .u64 z3, .int .u64 z4, .int .u64 z5, .int .u64 z6, .int .u64 z7, .int .u64 z8, .int .u64 z9, .int .u64 z10, .int .u64 z11, .int .u64 z12, .int .u64 z13, .int .u64 z14, .int .u64 z15] 52)).alloc (.map #[] 0)) 86 #[.int .u64 z0, .int .u64 z1, .int .u64 z2, .int .u64 z3, .int .u64 z4, .int .u64 z5, .int .u64 z6, .int .u64 z7, .int .u64 z8, .int .u64 z9, .int .u64 z10, .int .u64 z11, .int .u64 z12, .int .u64 z13, .int .u64 z14, .int .u64 z15, .map (some (w.heap.size + 1))]
    simpa using this
  have hmp : OwnB W Try.prog 24 (w.heap.size + 1) 0 fun _ => none := by
    rw [← hW]
    have := OwnB.made (w.alloc (.cells #[.int .u64 z0, .int .u64 z1, .int .u64 z2, .int .u64 z3, .int .u64 z4, .int .u64 z5, .int .u64 z6, .int .u64 z7, .int .u64 z8, .int .u64 z9, .int .u64 z10, .int .u64 z11, .int .u64 z12, .int .u64 z13, .int .u64 z14, .int .u64 z15] 52)) Try.prog 24
    rw [World.size_alloc] at this
    exact this.alloc _
  have hbw : Below w.heap.size w W := by rw [← hW]; exact (((Below.refl _ _).alloc (Nat.le_refl _) _).alloc (by simp) _).alloc (by simp; omega) _
  rw [hW]
  have HST := Lib.hid hst
  have HMP := Lib.hid hmp
  have HBW := Lib.hid hbw
  clear hW hst hmp hbw hmm
  go_wp2
  refine wp_loop_rounds 1 ?_
  rw [rounds_succ]
  go_wp2
  go_ret
  exact ⟨_, _, rfl, ⟨HST.out.alloc _, (HMP.out.alloc _).congr fun x _ => by unfold noZero; simp, rfl, by omega, by omega⟩, HBW.out.alloc HBW.out.size _⟩
end Go.Proofs.Ytddaeaimimdonaa
