/-
  Chapter 6: the walk of ModelMakes. Printed by gen/lawm7.py.
-/
import Derived.Test.YtddaeaimimdonaaModO
import Derived.Test.YtddaeaimimdonaaLawM7P
namespace Go.Proofs.Ytddaeaimimdonaa
open Go.RowKit Go.Maps
set_option linter.unusedVariables false

section
variable {P : Program} (w : World) {ops : Array Oper} {rest : List Oper} {o : Oper} {a : Act} {Q : Exit → Act → World → Prop}
/-- 'clear(m)'. -/
theorem wpList_clear_map (hg : o.guard = none) (m : Operand) (t : TypeId) (hop : o.op = Op.call { callee := Callee.builtin Builtin.clear, args := #[m], argTypes := #[t] }) (k e : TypeId) (ht : P.underlying t = some (.map k e)) (b : Nat) (es : Array MapEntry) (clock : Nat)
    (hm : a.eval m = .map (some b)) (hb : w.heap[b]? = some (.map es clock)) (hK' : ∀ w', w.grownBy w' (some b) → wpList P ops Q rest (a.put o.dst (.tuple #[])) w') : wpList P ops Q (o :: rest) a w := by
  refine wpList_plain hg fun K2 hK2 => ?_
  have h1 : (getObj b).run P w = .ok (.map es clock) w := by simp [getObj, Sem.run, hb]
  have h2 : (setObj b (.map #[] clock)).run P w = .ok () { w with heap := w.heap.setIfInBounds b (.map #[] clock) } := by simp [setObj, Sem.run, hb]
  have hrun : ∃ w', (Builtin.clear_ #[t] o.type #[.map (some b)]).run P w = .ok (.tuple #[]) w' ∧ w.grownBy w' (some b) := by
    refine ⟨{ w with heap := w.heap.setIfInBounds b (.map #[] clock) }, by simp [Builtin.clear_, run_underlying ht, h1, h2, Result.andThen], rfl, rfl, rfl, by simp, fun i hi hne => ?_⟩
    have : b ≠ i := fun e => hne (by rw [e])
    simp [Array.getElem?_setIfInBounds, this]
  obtain ⟨w', hrun, hgr⟩ := hrun
  unfold Oper.wp
  simp [execOp, hop, resolve, invoke, builtin, hm, hrun, Result.andThen]
  exact hK2 _ _ (hK' w' hgr)
end
theorem map_block {w : World} {P : Program} {K : TypeId} {b n : Nat} {f : Int → Option (List Int)} (h : OwnB w P K b n f) : ∃ es clock, w.heap[b]? = some (.map es clock) := by
  obtain ⟨D, ⟨es, clock, hb, _⟩, _⟩ := h
  exact ⟨es, clock, hb⟩
theorem info_box : (Try.prog.info? 58).map (fun i => (i.zero, i.size, i.bytes)) = some (some (.agg #[.int .u64 0, .int .u64 0, .int .u64 0, .int .u64 0, .int .u64 0, .int .u64 0, .int .u64 0, .int .u64 0, .int .u64 0]), 9, 72) := by kernel_rfl
theorem map_ne_own {w : World} {P : Program} {K s : TypeId} {R : Value → Option (DataW Unit × List MemPlace)} {b n base size m : Nat} {D : DataW Unit} {v : Value} {xs : List Value} (h : w.ownsMap P K R b n D) (ho : w.ownsRow base s size v m xs) : some b ≠ v.ownBlock := by
  intro e
  obtain ⟨es, clock, hb, _⟩ := h
  rcases ho.2 with ⟨rfl, _⟩ | ⟨g, cap, cur, rfl, _, hg, _⟩
  · simp [Value.ownBlock] at e
  · obtain rfl : b = g := by simpa [Value.ownBlock] using e
    rw [hb] at hg
    cases hg
theorem own_none (v : Value) : v.ownBlock = none ∨ v.ownBlock ≠ none := by cases v.ownBlock <;> simp
theorem wf_wrap (x : Int) : (Lit.int .i64 (wrap64 (x + 1))).wf = true := by rw [← IntWalk.i64_left]; exact wf_wrap64 _
/-- The law's own blocks. -/
structure MkAt (w wr : World) (gr ma gx : Nat) (rs : List Int) (sv : Value) (n : Nat) (f : Int → Option (List Int)) : Prop where
  box : Bk wr gr 52 (u64s rs).toArray
  map : OwnB wr Try.prog 24 ma n f
  st : Bk wr gx 56 (u64s rs ++ [sv]).toArray
  below : Below w.heap.size w wr
  lo : w.heap.size ≤ gr ∧ w.heap.size ≤ ma ∧ w.heap.size ≤ gx
theorem MkAt.but {w wr w' : World} {gr ma gx n : Nat} {rs : List Int} {sv : Value} {f : Int → Option (List Int)} {row : Option Nat} (h : MkAt w wr gr ma gx rs sv n f) (hg : wr.grownBy w' row) (h1 : row ≠ some gr) (h2 : some ma ≠ row) (h3 : row ≠ some gx) (h4 : ∀ k, row = some k → w.heap.size ≤ k) : MkAt w w' gr ma gx rs sv n f :=
  ⟨h.box.grown hg h1, h.map.kept hg h2, h.st.grown hg h3, h.below.grown hg h.below.size h4, h.lo⟩
theorem MkAt.more {w wr w' : World} {gr ma gx n : Nat} {rs : List Int} {sv : Value} {f : Int → Option (List Int)} (h : MkAt w wr gr ma gx rs sv n f) (hg : wr.grownBy w' none) : MkAt w w' gr ma gx rs sv n f :=
  h.but hg (by simp) (by simp) (by simp) (fun k e => by cases e)
set_option maxRecDepth 100000 in
set_option maxHeartbeats 16000000 in
theorem makes_walk (rs : List Int) (l : List PBox) (A : Option Addr) (n c : Nat) (w : World) (hr16 : rs.length = 16) (hl : RdX w w.heap.size A n l) :
    Calls Try.prog 7 #[.agg (u64s rs).toArray, .slice A n c] w fun e w' => e = .returned (.bool true) ∧ Below w.heap.size w w' := by
  obtain ⟨z0, z1, z2, z3, z4, z5, z6, z7, z8, z9, z10, z11, z12, z13, z14, z15, hz⟩ := sixteen hr16
  have HL := Lib.hid hl
  have HLn := Lib.hid hl.len
  have h63 := hl.rd.le
  have HZ := Lib.hid hz
  have HR16 := Lib.hid hr16
  have hKu := Try.underlying24
  have hmm := @run_makeMap Try.prog
  unfold maxLen at h63
  rw [hz]
  simp only [u64s, List.map_cons, List.map_nil]
  clear hl hz hr16
  go_enter Try.func7, Try.ntmps7
  go_upto_region 1 with fail
  obtain ⟨W0, hW0⟩ : ∃ W0, w.alloc (.cells #[.int .u64 z0, .int .u64 z1, .int .u64 z2, .int .u64 z3, .int .u64 z4, .int .u64 z5, .int .u64 z6, .int .u64 z7, .int .u64 z8, .int .u64 z9, .int .u64 z10, .int .u64 z11, .int .u64 z12, .int .u64 z13, .int .u64 z14, .int .u64 z15] 52) = W0 := ⟨_, rfl⟩
  have hb0 : Below w.heap.size w W0 := by rw [← hW0]; exact (Below.refl _ _).alloc (Nat.le_refl _) _
  have hx0 : Bk W0 w.heap.size 52 (u64s rs).toArray := by rw [← hW0, HZ.out]; exact Bk.new _ _ _
  rw [hW0]
  go_wp2_with fail
  refine (alive6_any _).mono ?_
  rintro e W1 ⟨rfl, hb1⟩
  have HB1 := Lib.hid (hb0.trans (hb1.mono hb0.size))
  have HX1 := Lib.hid (hx0.below hb1 hx0.lt)
  clear hW0 hb0 hx0 hb1
  by_cases hn20 : 20 < n
  · have hn20i : (20 : Int) < (n : Int) := by omega
    go_wp2
    go_ret
    exact ⟨rfl, HB1.out⟩
  have hn20i : ¬ ((20 : Int) < (n : Int)) := by omega
  obtain ⟨gr, hgr⟩ : ∃ gr, w.heap.size = gr := ⟨_, rfl⟩
  have HGr := Lib.hid hgr
  rw [hgr] at HX1 ⊢
  clear hgr
  go_upto_region 6 with fail
  obtain ⟨Wm, hWm⟩ : ∃ Wm, W1.alloc (.map #[] 0) = Wm := ⟨_, rfl⟩
  rw [hWm]
  have HWm := Lib.hid hWm
  have hxm : Bk Wm gr 52 (u64s rs).toArray := by rw [← hWm]; exact HX1.out.alloc _
  have r0 : Wm.cell? ⟨gr, 0, none⟩ = some (.int .u64 z0) := by rw [hxm.cell, HZ.out]; rfl
  have r1 : Wm.cell? ⟨gr, 1, none⟩ = some (.int .u64 z1) := by rw [hxm.cell, HZ.out]; rfl
  have r2 : Wm.cell? ⟨gr, 2, none⟩ = some (.int .u64 z2) := by rw [hxm.cell, HZ.out]; rfl
  have r3 : Wm.cell? ⟨gr, 3, none⟩ = some (.int .u64 z3) := by rw [hxm.cell, HZ.out]; rfl
  have r4 : Wm.cell? ⟨gr, 4, none⟩ = some (.int .u64 z4) := by rw [hxm.cell, HZ.out]; rfl
  have r5 : Wm.cell? ⟨gr, 5, none⟩ = some (.int .u64 z5) := by rw [hxm.cell, HZ.out]; rfl
  have r6 : Wm.cell? ⟨gr, 6, none⟩ = some (.int .u64 z6) := by rw [hxm.cell, HZ.out]; rfl
  have r7 : Wm.cell? ⟨gr, 7, none⟩ = some (.int .u64 z7) := by rw [hxm.cell, HZ.out]; rfl
  have r8 : Wm.cell? ⟨gr, 8, none⟩ = some (.int .u64 z8) := by rw [hxm.cell, HZ.out]; rfl
  have r9 : Wm.cell? ⟨gr, 9, none⟩ = some (.int .u64 z9) := by rw [hxm.cell, HZ.out]; rfl
  have r10 : Wm.cell? ⟨gr, 10, none⟩ = some (.int .u64 z10) := by rw [hxm.cell, HZ.out]; rfl
  have r11 : Wm.cell? ⟨gr, 11, none⟩ = some (.int .u64 z11) := by rw [hxm.cell, HZ.out]; rfl
  have r12 : Wm.cell? ⟨gr, 12, none⟩ = some (.int .u64 z12) := by rw [hxm.cell, HZ.out]; rfl
  have r13 : Wm.cell? ⟨gr, 13, none⟩ = some (.int .u64 z13) := by rw [hxm.cell, HZ.out]; rfl
  have r14 : Wm.cell? ⟨gr, 14, none⟩ = some (.int .u64 z14) := by rw [hxm.cell, HZ.out]; rfl
  have r15 : Wm.cell? ⟨gr, 15, none⟩ = some (.int .u64 z15) := by rw [hxm.cell, HZ.out]; rfl
  clear hWm
  go_upto_region 7 with fail
  obtain ⟨W2, hW2⟩ : ∃ W2, Wm.alloc (.cells #[.int .u64 z0, .int .u64 z1, .int .u64 z2, .int .u64 z3, .int .u64 z4, .int .u64 z5, .int .u64 z6, .int .u64 z7, .int .u64 z8, .int .u64 z9, .int .u64 z10, .int .u64 z11, .int .u64 z12, .int .u64 z13, .int .u64 z14, .int .u64 z15, .slice none 0 0] 56) = W2 := ⟨_, rfl⟩
  have hlo1 : w.heap.size ≤ W1.heap.size := HB1.out.size
  have hmk : MkAt w W2 gr W1.heap.size (W1.heap.size + 1) rs (.slice none 0 0) 0 (allF (l.take 0)) := by
    rw [← hW2, ← HWm.out]
    refine ⟨(HX1.out.alloc _).alloc _, (OwnB.made W1 Try.prog 24).alloc _, ?_, (HB1.out.alloc HB1.out.size _).alloc (by simp; omega) _, by rw [← HGr.out]; omega, by omega, by omega⟩
    rw [HZ.out]
    have := Bk.new (W1.alloc (.map #[] 0)) 56 #[.int .u64 z0, .int .u64 z1, .int .u64 z2, .int .u64 z3, .int .u64 z4, .int .u64 z5, .int .u64 z6, .int .u64 z7, .int .u64 z8, .int .u64 z9, .int .u64 z10, .int .u64 z11, .int .u64 z12, .int .u64 z13, .int .u64 z14, .int .u64 z15, .slice none 0 0]
    simpa using this
  rw [hW2]
  have HMk := Lib.hid hmk
  have hzm : Wm.heap.size = W1.heap.size + 1 := by rw [← HWm.out]; simp
  try rw [hzm]
  obtain ⟨ma, hma⟩ : ∃ ma, W1.heap.size = ma := ⟨_, rfl⟩
  rw [hma] at HMk ⊢
  obtain ⟨gx, hgx⟩ : ∃ gx, ma + 1 = gx := ⟨_, rfl⟩
  rw [hgx] at HMk ⊢
  have HGx : Hid (gr < ma ∧ ma < gx) := ⟨by rw [← hma]; exact HX1.out.lt, by omega⟩
  clear hW2 hmk hma hgx hlo1 HX1 hxm hzm HWm r0 r1 r2 r3 r4 r5 r6 r7 r8 r9 r10 r11 r12 r13 r14 r15
  go_wp2
  go_loopw [26, 8] (fun i _a wr => ∃ k : Nat, (k ≤ n ∧ i = .int .i64 k) ∧ Hid (MkAt w wr gr ma gx rs (.slice none 0 0) k (allF (l.take k)))) (fun i _ _ => n - (intOf i).toNat)
  case atStart => exact ⟨0, ⟨by omega, rfl⟩, HMk⟩
  case round =>
    clear HMk
    obtain ⟨k, ⟨hk, rfl⟩, HMk⟩ := hrel
    by_cases hlk : k < n
    · have hlki : (k : Int) < (n : Int) := by omega
      obtain ⟨b, o, x, x0, x1, x2, x3, x4, x5, x6, x7, rfl, hbB, hxk, c0, d0, d1, d2, d3, d4, d5, d6, d7⟩ := (HL.out.below HMk.out.below).at_ hlk
      have HUx := Lib.hid (HL.out.ok _ (List.mem_of_getElem? hxk)).1
      have HSn := Lib.hid (allF_snoc hxk)
      clear hxk
      go_upto_region 10 with fail
      obtain ⟨W3, hW3⟩ : ∃ W3, wr.alloc (.cells #[.int .u64 x, .int .u64 x0, .int .u64 x1, .int .u64 x2, .int .u64 x3, .int .u64 x4, .int .u64 x5, .int .u64 x6, .int .u64 x7] 58) = W3 := ⟨_, rfl⟩
      have hk3 : Bk W3 wr.heap.size 58 #[.int .u64 x, .int .u64 x0, .int .u64 x1, .int .u64 x2, .int .u64 x3, .int .u64 x4, .int .u64 x5, .int .u64 x6, .int .u64 x7] := by rw [← hW3]; exact Bk.new _ _ _
      have hg3 : wr.grownBy W3 none := by rw [← hW3]; exact World.grownBy_alloc _ _ _
      rw [hW3]
      have HMk3 := Lib.hid (HMk.out.more hg3)
      have f0 : W3.cell? ⟨wr.heap.size, 0, none⟩ = some (.int .u64 x) := (hk3.cell 0).trans rfl
      have f1 : W3.cell? ⟨wr.heap.size, 1, none⟩ = some (.int .u64 x0) := (hk3.cell 1).trans rfl
      have f2 : W3.cell? ⟨wr.heap.size, 2, none⟩ = some (.int .u64 x1) := (hk3.cell 2).trans rfl
      have f3 : W3.cell? ⟨wr.heap.size, 3, none⟩ = some (.int .u64 x2) := (hk3.cell 3).trans rfl
      have f4 : W3.cell? ⟨wr.heap.size, 4, none⟩ = some (.int .u64 x3) := (hk3.cell 4).trans rfl
      have f5 : W3.cell? ⟨wr.heap.size, 5, none⟩ = some (.int .u64 x4) := (hk3.cell 5).trans rfl
      have f6 : W3.cell? ⟨wr.heap.size, 6, none⟩ = some (.int .u64 x5) := (hk3.cell 6).trans rfl
      have f7 : W3.cell? ⟨wr.heap.size, 7, none⟩ = some (.int .u64 x6) := (hk3.cell 7).trans rfl
      have f8 : W3.cell? ⟨wr.heap.size, 8, none⟩ = some (.int .u64 x7) := (hk3.cell 8).trans rfl
      have hnN : k < maxLen := by unfold maxLen; omega
      clear hW3 hk3 hg3 c0 d0 d1 d2 d3 d4 d5 d6 d7
      go_wp2_with (at_mapUpdate; refine wpList_store_blk _ (by rfl) (.tmp 30) (.tmp 32) (.tmp 34) 54 (by rfl) 24 47 hKu Try.underlying54 ma k (allF (l.take k)) (by rfl) HMk3.out.map hnN x (by rfl) HUx.out [x0, x1, x2, x3, x4, x5, x6, x7] (by rfl) rfl ?_)
      intro W4 hown4 hg4
      have HMk4 : Hid (MkAt w W4 gr ma gx rs (.slice none 0 0) (k + 1) (allF (l.take (k + 1)))) := by
        have h := HMk3.out
        refine ⟨h.box.grown hg4 (by have := HGx.out; simp; omega), by rw [HSn.out]; exact hown4, h.st.grown hg4 (by have := HGx.out; simp; omega), h.below.grown hg4 h.below.size (fun j e => by cases e; exact h.lo.2.1), h.lo⟩
      clear hown4 hg4
      go_wp2
      go_roundw
      case rel => exact ⟨k + 1, ⟨by omega, by go_num⟩, HMk4⟩
      case measure => simp [intOf]; omega
    · obtain rfl : n = k := by omega
      have HT : Hid (l.take n = l) := List.take_of_length_le (by rw [HLn.out]; exact Nat.le_refl _)
      rw [HT.out] at HMk
      obtain ⟨f, hf⟩ : ∃ f, allF l = f := ⟨_, rfl⟩
      rw [hf] at HMk
      clear hf
      have hge : ¬ ((n : Int) < (n : Int)) := by omega
      go_upto_region 13 with fail
      obtain ⟨W5, hW5⟩ : ∃ W5, wr.alloc (.map #[] 0) = W5 := ⟨_, rfl⟩
      rw [hW5]
      have hseen : W5.ownsMap Try.prog 24 (plainElem (H := Unit) Try.prog 3) wr.heap.size 0 (.map []) := by rw [← hW5]; exact World.ownsMap_made wr _ _ _
      have HMk5 := Lib.hid (HMk.out.more (show wr.grownBy W5 none by rw [← hW5]; exact World.grownBy_alloc _ _ _))
      have hmsl := HMk.out.below.size
      have HSl : Hid (ma < wr.heap.size ∧ gx < wr.heap.size) := ⟨HMk.out.map.lt, HMk.out.st.lt⟩
      obtain ⟨ms, hms⟩ : ∃ ms, wr.heap.size = ms := ⟨_, rfl⟩
      rw [hms] at hseen hmsl HSl ⊢
      have HSeen := Lib.hid hseen
      clear hW5 hseen hms HMk
      obtain ⟨ib, hib, hz0, hz1, hz2⟩ := info_parts info_box
      go_wp2
      go_loopw [10, 11, 12] (fun i _a _b wr => ∃ (q qn : Nat) (xv : Value) (D : DataW Unit), (q ≤ 64 ∧ i = .int .u64 ((q : Int) + 1)) ∧ Hid (MkAt w wr gr ma gx rs xv n f) ∧ Hid (wr.ownsRow w.heap.size 58 9 xv (bxs f q).length ((bxs f q).flatMap PBox.cells)) ∧ Hid (wr.ownsMap Try.prog 24 (plainElem (H := Unit) Try.prog 3) ms qn D) ∧ qn ≤ q ∧ Hid (Maps.size D = 0 ↔ bxs f q = [])) (fun i _ _ _ => 65 - (intOf i).toNat)
      case atStart => exact ⟨0, 0, _, _, ⟨by omega, rfl⟩, HMk5, World.ownsRow_nil _ _ _ _, HSeen, by omega, ⟨fun _ => rfl, fun _ => rfl⟩⟩
      case round =>
        clear HMk5 HSeen
        obtain ⟨q, qn, xv, D, ⟨hq, rfl⟩, HMq, HRow, HSeen, hqn, HSz⟩ := hrel
        by_cases hlq : q < 64
        · have hlqi : (q : Int) + 1 ≤ 64 := by omega
          have huq : U64 ((q : Int) + 1) := ⟨by omega, by omega⟩
          have hlk := HMq.out.map.look (t := 54) (e := 47) hKu Try.underlying54 (zero_blk _) huq
          cases hfq : f ((q : Int) + 1) with
          | none =>
            rw [hfq] at hlk
            simp only [Option.getD_none, Option.isSome_none, blkV, zero8, List.map_cons, List.map_nil] at hlk
            have HNx := Lib.hid (bxs_none hfq)
            clear hfq
            go_wp2
            go_roundw
            case rel => exact ⟨q + 1, qn, xv, D, ⟨by omega, by go_num⟩, HMq.out.more (World.grownBy_alloc _ _ _), by show World.ownsRow _ _ _ _ _ _ _; rw [HNx.out]; exact HRow.out.alloc _, HSeen.out.alloc _, by omega, by show _ ↔ _; rw [HNx.out]; exact HSz.out⟩
            case measure => simp [intOf]; omega
          | some ws =>
            have h8 : ws.length = 8 := HMq.out.map.words huq hfq
            obtain ⟨y0, y1, y2, y3, y4, y5, y6, y7, rfl⟩ := eight h8
            rw [hfq] at hlk
            simp only [Option.getD_some, Option.isSome_some, blkV, List.map_cons, List.map_nil] at hlk
            have HSm := Lib.hid (bxs_some hfq)
            have HBl := Lib.hid (bxs_len f q)
            clear hfq h8
            go_upto_region 17 with fail
            obtain ⟨W6, hW6⟩ : ∃ W6, wr.alloc (.cells #[.int .u64 y0, .int .u64 y1, .int .u64 y2, .int .u64 y3, .int .u64 y4, .int .u64 y5, .int .u64 y6, .int .u64 y7] 47) = W6 := ⟨_, rfl⟩
            have hk6 : Bk W6 wr.heap.size 47 #[.int .u64 y0, .int .u64 y1, .int .u64 y2, .int .u64 y3, .int .u64 y4, .int .u64 y5, .int .u64 y6, .int .u64 y7] := by rw [← hW6]; exact Bk.new _ _ _
            have hg6 : wr.grownBy W6 none := by rw [← hW6]; exact World.grownBy_alloc _ _ _
            rw [hW6]
            have HM6 := Lib.hid (HMq.out.more hg6)
            have HR6 := Lib.hid (show W6.ownsRow w.heap.size 58 9 xv (bxs f q).length ((bxs f q).flatMap PBox.cells) by rw [← hW6]; exact HRow.out.alloc _)
            have HS6 := Lib.hid (HSeen.out.kept hg6 (by simp))
            have g0 : W6.cell? ⟨wr.heap.size, 0, none⟩ = some (.int .u64 y0) := (hk6.cell 0).trans rfl
            have g1 : W6.cell? ⟨wr.heap.size, 1, none⟩ = some (.int .u64 y1) := (hk6.cell 1).trans rfl
            have g2 : W6.cell? ⟨wr.heap.size, 2, none⟩ = some (.int .u64 y2) := (hk6.cell 2).trans rfl
            have g3 : W6.cell? ⟨wr.heap.size, 3, none⟩ = some (.int .u64 y3) := (hk6.cell 3).trans rfl
            have g4 : W6.cell? ⟨wr.heap.size, 4, none⟩ = some (.int .u64 y4) := (hk6.cell 4).trans rfl
            have g5 : W6.cell? ⟨wr.heap.size, 5, none⟩ = some (.int .u64 y5) := (hk6.cell 5).trans rfl
            have g6 : W6.cell? ⟨wr.heap.size, 6, none⟩ = some (.int .u64 y6) := (hk6.cell 6).trans rfl
            have g7 : W6.cell? ⟨wr.heap.size, 7, none⟩ = some (.int .u64 y7) := (hk6.cell 7).trans rfl
            have x16 : W6.cell? ⟨gx, 16, none⟩ = some xv := by rw [HM6.out.st.cell, HZ.out]; rfl
            obtain ⟨L, hL⟩ : ∃ L, bxs f q = L := ⟨_, rfl⟩
            rw [hL] at HR6 HSm HBl HSz
            have hLl := HBl.out
            clear hlk hW6 hk6 hg6 hL HMq HRow HSeen
            have HMa := Lib.hid (HM6.out.more (World.grownBy_alloc W6 (.cells #[.int .u64 ((q : Int) + 1), .int .u64 y0, .int .u64 y1, .int .u64 y2, .int .u64 y3, .int .u64 y4, .int .u64 y5, .int .u64 y6, .int .u64 y7] 58) none))
            have HRa := Lib.hid (HR6.out.alloc (.cells #[.int .u64 ((q : Int) + 1), .int .u64 y0, .int .u64 y1, .int .u64 y2, .int .u64 y3, .int .u64 y4, .int .u64 y5, .int .u64 y6, .int .u64 y7] 58))
            have HSa := Lib.hid (HS6.out.alloc (.cells #[.int .u64 ((q : Int) + 1), .int .u64 y0, .int .u64 y1, .int .u64 y2, .int .u64 y3, .int .u64 y4, .int .u64 y5, .int .u64 y6, .int .u64 y7] 58))
            have hz3 := HMa.out.below.size
            have Ra : Hid (Rd (W6.alloc (.cells #[.int .u64 ((q : Int) + 1), .int .u64 y0, .int .u64 y1, .int .u64 y2, .int .u64 y3, .int .u64 y4, .int .u64 y5, .int .u64 y6, .int .u64 y7] 58)) (W6.heap.size + 1) 9 (some ⟨W6.heap.size, 0, none⟩) 1 (PBox.cells ⟨(q : Int) + 1, [y0, y1, y2, y3, y4, y5, y6, y7]⟩)) := Rd.new W6 _ _ (size := 9) (m := 1) rfl (by simp [maxLen])
            have tok1 : True := trivial
            go_upto_region 19 with (first
              | (at_builtin
                 have _t := tok1
                 go_must (
                   refine wpList_app _ rfl (.tmp 49) (.tmp 53) 53 rfl w.heap.size 58 ib _ 9 72 Try.underlying53 hib hz0 hz1 hz2 rfl (by omega) _ _ _ rfl HRa.out _ _ 1 _ _ rfl Ra.out ?_ ?_ ?_ ?_ ?_
                   · intro u hu; simp [PBox.cells] at hu; rcases hu with rfl | rfl | rfl | rfl | rfl | rfl | rfl | rfl | rfl <;> rfl
                   · simp only [maxLen]; omega
                   · omega
                   · exact hz3
                   intro v7 w7 hown7 hg7 _
                   obtain ⟨A7, c7, hv7, _, _⟩ := Rd.of_own_cap hown7
                   subst hv7
                   have hM7 := HMa.out.but hg7 (HMa.out.box.ne_own HRa.out (by decide)) (HMa.out.map.ne_own HRa.out) (HMa.out.st.ne_own HRa.out (by decide)) (fun k hk => (HRa.out.lt k hk).1)
                   have hS7 := HSa.out.kept hg7 (map_ne_own HSa.out HRa.out)
                   have HO7 := Lib.hid hown7
                   have HM7 := Lib.hid hM7
                   have HS7 := Lib.hid hS7
                   have q16 : w7.cell? ⟨gx, 16, none⟩ = some xv := by rw [hM7.st.cell, HZ.out]; rfl
                   have p16 := hM7.st.frozen 16
                   clear hown7 hg7 hM7 hS7 _t tok1 x16))
              | fail)
            have hM8 : MkAt w (w7.setCell ⟨gx, 16, none⟩ (.slice A7 (L.length + 1) c7)) gr ma gx rs (.slice A7 (L.length + 1) c7) n f := by
              have h := HM7.out
              have hg := grown_set w7 gx 16 (.slice A7 (L.length + 1) c7)
              have hne := HGx.out
              refine ⟨h.box.grown hg (by simp; omega), h.map.kept hg (by simp; omega), ?_, h.below.grown hg h.below.size (fun k e => by cases e; exact h.lo.2.2), h.lo⟩
              have hs := Bk.set_ h.st 16 (.slice A7 (L.length + 1) c7)
              have he : (u64s rs ++ [xv]).toArray.setIfInBounds 16 (.slice A7 (L.length + 1) c7) = (u64s rs ++ [Value.slice A7 (L.length + 1) c7]).toArray := by rw [HZ.out]; rfl
              rw [he] at hs
              exact hs
            have hR8 := HO7.out.kept (grown_set w7 gx 16 (.slice A7 (L.length + 1) c7)) (.inr (HM7.out.st.ne_own HO7.out (by decide)))
            have hS8 := HS7.out.kept (grown_set w7 gx 16 (.slice A7 (L.length + 1) c7)) (by have := HSl.out; simp; omega)
            obtain ⟨W8, hW8⟩ : ∃ W8, w7.setCell ⟨gx, 16, none⟩ (.slice A7 (L.length + 1) c7) = W8 := ⟨_, rfl⟩
            rw [hW8] at hM8 hR8 hS8 ⊢
            have HM8 := Lib.hid hM8
            have HR8 := Lib.hid hR8
            have HS8 := Lib.hid hS8
            clear hW8 hM8 hR8 hS8 q16 p16
            have hkey : keyOf Try.prog 24 (.int .u64 ((q : Int) + 1)) = some (.int .u64 ((q : Int) + 1)) := keyOf_int_mk hKu (wf_u64_mk huq)
            have hKi := Try.underlying3
            have hqN : qn < maxLen := by unfold maxLen; omega
            go_wp2_with (first
              | (at_lookup; refine wpList_lookup_own_int _ rfl (.tmp 56) (.tmp 57) 59 rfl 24 3 .i64 (int_keyed hKu) Try.underlying59 hKi (by kernel_rfl) ms qn D rfl HS8.out _ _ rfl hkey ?_; intro cc hat hwc; clear hat hwc; have hwf := wf_wrap cc)
              | (at_mapUpdate; refine wpList_mapUpdate_own _ rfl (.tmp 56) (.tmp 57) (.tmp 59) 59 rfl 24 3 (int_keyed hKu) Try.underlying59 (plainElem (H := Unit) Try.prog 3) ms qn D rfl HS8.out hqN _ _ _ rfl rfl hkey _ _ (plainElem_int hKi hwf) ?_; intro w9 hown9 hg9)
              | fail)
            have HM9 := Lib.hid (HM8.out.but hg9 (by have := HGx.out; have := HSl.out; simp; omega) (by have := HSl.out; simp; omega) (by have := HSl.out; simp; omega) (fun k e => by cases e; exact hmsl))
            have HR9 := Lib.hid (HR8.out.kept hg9 (.inr (fun e => map_ne_own HS8.out HR8.out e.symm)))
            have hkl : WideAt.IsKeyLit (Lit.int .u64 ((q : Int) + 1)) := by first | exact trivial | exact ⟨_, _, rfl⟩ | simp [WideAt.IsKeyLit]
            have HSp := Lib.hid (size_pos hown9 (Maps.has_put_same HS8.out.isMap hkl _))
            have HS9 := Lib.hid hown9
            clear hown9 hg9 hkl hkey
            go_roundw
            case rel =>
              refine ⟨q + 1, qn + 1, _, _, ⟨by omega, by go_num⟩, HM9, ?_, HS9, by omega, ?_⟩
              · show World.ownsRow _ _ _ _ _ _ _
                rw [HSm.out, List.length_append, List.flatMap_append]
                simpa using HR9.out
              · show _ ↔ _
                rw [HSm.out]
                exact ⟨fun h => absurd HSp.out (by omega), fun h => by simp at h⟩
            case measure => simp [intOf]; omega
        · obtain rfl : q = 64 := by omega
          have h65 : ¬ (((64 : Nat) : Int) + 1 ≤ 64) := by omega
          obtain ⟨xA, xc, rfl, _, _⟩ := Rd.of_own_cap HRow.out
          have HBl := Lib.hid (bxs_len f 64)
          obtain ⟨D1, o1, v1'⟩ := HMq.out.map
          have v1 : Val D1 f := v1'
          have HV1 := Lib.hid v1
          have HO1 := Lib.hid o1
          obtain ⟨V, hV⟩ : ∃ V, wr = V := ⟨_, rfl⟩
          rw [hV] at HMq HRow HSeen HO1 o1 ⊢
          clear hV v1' v1
          go_wp2_with (first
            | (at_range; refine wpList_range_own _ rfl _ 54 rfl 24 47 (int_keyed hKu) Try.underlying54 blkR ma n _ rfl o1 ?_; intro w0 hrg0 hg0 hs0)
            | go_in)
          try go_frame
          go_loopw [13] (fun _ w3 => ∃ (left : Lit → Bool) (cnt : Nat), w3.ranges Try.prog 24 blkR ma V.heap.size n D1 left cnt ∧ Hid (V.grownBy w3 none) ∧ Hid (∀ x, U64 x → Maps.has D1 (.int .u64 x) = true → left (.int .u64 x) = false → x ≤ 64))
            (fun _ w3 => w3.rangeLeft ma V.heap.size)
          case atStart => exact ⟨_, _, hrg0, hg0, fun x _ hx hl => by rw [hx] at hl; cases hl⟩
          case round =>
            obtain ⟨left, cnt, hrg, HG, H64⟩ := hrel
            go_wp2_with (first
              | (at_next; refine wpList_next_ranges _ rfl _ rfl 24 (int_keyed hKu) blkR id id (fun key _ _ => ⟨key, rfl⟩) (fun v _ _ => ⟨v, rfl⟩) ma V.heap.size n _ _ _ rfl hrg ?_ ?_)
              | go_in)
            · as_aux_lemma =>
                intro _ hl0
                have HF : Hid (∀ x, U64 x → (f x).isSome = true → x ≤ 64) := fun x hx hs => by
                  obtain ⟨ws, hw⟩ := Option.isSome_iff_exists.1 hs
                  exact H64.out x hx (HV1.out.had hx hw).1 (hl0 _)
                have HM3 := Lib.hid (HMq.out.more HG.out)
                have HSe3 := Lib.hid (HSeen.out.kept HG.out (by simp))
                have HX3 := Lib.hid (HRow.out.kept HG.out (own_none _))
                obtain ⟨W3, hW3⟩ : ∃ W3, wr = W3 := ⟨_, rfl⟩
                rw [hW3] at HM3 HSe3 HX3 ⊢
                have HVz : Hid (V.heap.size ≤ W3.heap.size) := by rw [← hW3]; exact HG.out.size
                clear hW3 hrg HG H64 HMq HSeen HRow
                have hrsZ : (u64s rs).toArray = #[.int .u64 z0, .int .u64 z1, .int .u64 z2, .int .u64 z3, .int .u64 z4, .int .u64 z5, .int .u64 z6, .int .u64 z7, .int .u64 z8, .int .u64 z9, .int .u64 z10, .int .u64 z11, .int .u64 z12, .int .u64 z13, .int .u64 z14, .int .u64 z15] := by rw [HZ.out]; rfl
                have hnn1 : n ≤ 1000000000 := by omega
                have HOf : Hid (Calls Try.prog 25 #[.agg #[.int .u64 z0, .int .u64 z1, .int .u64 z2, .int .u64 z3, .int .u64 z4, .int .u64 z5, .int .u64 z6, .int .u64 z7, .int .u64 z8, .int .u64 z9, .int .u64 z10, .int .u64 z11, .int .u64 z12, .int .u64 z13, .int .u64 z14, .int .u64 z15], .map (some ma)] W3 (OfPost rs f n W3)) := by
                  have h := mof_any rs ma n f W3 HR16.out HM3.out.map hnn1
                  rw [hrsZ] at h; exact h
                have r0 : W3.cell? ⟨gr, 0, none⟩ = some (.int .u64 z0) := by rw [HM3.out.box.cell, HZ.out]; rfl
                have r1 : W3.cell? ⟨gr, 1, none⟩ = some (.int .u64 z1) := by rw [HM3.out.box.cell, HZ.out]; rfl
                have r2 : W3.cell? ⟨gr, 2, none⟩ = some (.int .u64 z2) := by rw [HM3.out.box.cell, HZ.out]; rfl
                have r3 : W3.cell? ⟨gr, 3, none⟩ = some (.int .u64 z3) := by rw [HM3.out.box.cell, HZ.out]; rfl
                have r4 : W3.cell? ⟨gr, 4, none⟩ = some (.int .u64 z4) := by rw [HM3.out.box.cell, HZ.out]; rfl
                have r5 : W3.cell? ⟨gr, 5, none⟩ = some (.int .u64 z5) := by rw [HM3.out.box.cell, HZ.out]; rfl
                have r6 : W3.cell? ⟨gr, 6, none⟩ = some (.int .u64 z6) := by rw [HM3.out.box.cell, HZ.out]; rfl
                have r7 : W3.cell? ⟨gr, 7, none⟩ = some (.int .u64 z7) := by rw [HM3.out.box.cell, HZ.out]; rfl
                have r8 : W3.cell? ⟨gr, 8, none⟩ = some (.int .u64 z8) := by rw [HM3.out.box.cell, HZ.out]; rfl
                have r9 : W3.cell? ⟨gr, 9, none⟩ = some (.int .u64 z9) := by rw [HM3.out.box.cell, HZ.out]; rfl
                have r10 : W3.cell? ⟨gr, 10, none⟩ = some (.int .u64 z10) := by rw [HM3.out.box.cell, HZ.out]; rfl
                have r11 : W3.cell? ⟨gr, 11, none⟩ = some (.int .u64 z11) := by rw [HM3.out.box.cell, HZ.out]; rfl
                have r12 : W3.cell? ⟨gr, 12, none⟩ = some (.int .u64 z12) := by rw [HM3.out.box.cell, HZ.out]; rfl
                have r13 : W3.cell? ⟨gr, 13, none⟩ = some (.int .u64 z13) := by rw [HM3.out.box.cell, HZ.out]; rfl
                have r14 : W3.cell? ⟨gr, 14, none⟩ = some (.int .u64 z14) := by rw [HM3.out.box.cell, HZ.out]; rfl
                have r15 : W3.cell? ⟨gr, 15, none⟩ = some (.int .u64 z15) := by rw [HM3.out.box.cell, HZ.out]; rfl
                go_wp2_with fail
                refine HOf.out.mono ?_
                rintro e W4 ⟨sb, mbs, rfl, hs4, hb4⟩
                have HS4 := Lib.hid hs4
                have HM4 := Lib.hid (HM3.out.more (bk_grown_below hb4))
                have HSe4 := Lib.hid (HSe3.out.kept (bk_grown_below hb4) (by simp))
                have HX4 := Lib.hid (HX3.out.kept (bk_grown_below hb4) (own_none _))
                have hma3 : ma < W3.heap.size := HM3.out.map.lt
                have hgr3 : gr < W3.heap.size := HM3.out.box.lt
                have hgx3 : gx < W3.heap.size := HM3.out.st.lt
                have hms3 : ms < W3.heap.size := HSe3.out.lt
                have HLt : Hid (ma ≠ sb ∧ ma ≠ mbs ∧ W3.heap.size ≤ W4.heap.size) := ⟨by have := hs4.bs; omega, by have := hs4.bm; omega, hb4.size⟩
                have HMa3 : Hid (w.heap.size ≤ ma ∧ ma ≠ gr ∧ ma ≠ gx ∧ ma ≠ ms) := ⟨HM3.out.lo.2.1, by have := HGx.out; omega, by have := HGx.out; omega, by have := HSl.out; omega⟩
                obtain ⟨es, clock, hmb⟩ := map_block HM4.out.map
                clear hs4 hb4 r0 r1 r2 r3 r4 r5 r6 r7 r8 r9 r10 r11 r12 r13 r14 r15 hma3 hgr3 hgx3 hms3
                have HCl : Hid (∀ W5, W4.grownBy W5 (some ma) → StIn W5 W3.heap.size n sb mbs ⟨rs, noZero f⟩ ∧ Bk W5 gr 52 (u64s rs).toArray ∧ Bk W5 gx 56 (u64s rs ++ [Value.slice xA (bxs f 64).length xc]).toArray ∧ W5.ownsMap Try.prog 24 (plainElem (H := Unit) Try.prog 3) ms qn D ∧ Below w.heap.size w W5 ∧ W5.ownsRow w.heap.size 58 9 (.slice xA (bxs f 64).length xc) (bxs f 64).length ((bxs f 64).flatMap PBox.cells) ∧ W3.heap.size ≤ W5.heap.size) := fun W5 hg5 => by
                  have h1 := HLt.out
                  have h2 := HMa3.out
                  refine ⟨⟨Bk.grown HS4.out.st hg5 (by simp; omega), HS4.out.map.kept hg5 (by simp; omega), HS4.out.roots, HS4.out.bs, HS4.out.bm⟩, HM4.out.box.grown hg5 (by simp; omega), HM4.out.st.grown hg5 (by simp; omega), HSe4.out.kept hg5 (by simp; omega), HM4.out.below.grown hg5 HM4.out.below.size (fun k e => by cases e; exact h2.1), HX4.out.kept hg5 (.inr (fun e => HM4.out.map.ne_own HX4.out e.symm)), Nat.le_trans h1.2.2 hg5.size⟩
                go_upto_region 27 with (first
                  | (refine wpList_clear_map _ rfl (.tmp 71) 54 rfl 24 47 Try.underlying54 ma es clock rfl hmb ?_
                     intro W5 hg5
                     have H5 := Lib.hid (HCl.out W5 hg5)
                     clear hg5 hmb)
                  | fail)
                have HS5 := Lib.hid H5.out.1
                have HGr5 := Lib.hid H5.out.2.1
                have HGx5 := Lib.hid H5.out.2.2.1
                have HSe5 := Lib.hid H5.out.2.2.2.1
                have HB5 := Lib.hid H5.out.2.2.2.2.1
                have HX5 := Lib.hid H5.out.2.2.2.2.2.1
                have HOf2 : Hid (Calls Try.prog 25 #[.agg #[.int .u64 z0, .int .u64 z1, .int .u64 z2, .int .u64 z3, .int .u64 z4, .int .u64 z5, .int .u64 z6, .int .u64 z7, .int .u64 z8, .int .u64 z9, .int .u64 z10, .int .u64 z11, .int .u64 z12, .int .u64 z13, .int .u64 z14, .int .u64 z15], .map none] W5 (OfPost rs (fun _ => none) 0 W5)) := by
                  have h := mof_nil rs W5 HR16.out
                  rw [hrsZ] at h; exact h
                have r0 : W5.cell? ⟨gr, 0, none⟩ = some (.int .u64 z0) := by rw [HGr5.out.cell, HZ.out]; rfl
                have r1 : W5.cell? ⟨gr, 1, none⟩ = some (.int .u64 z1) := by rw [HGr5.out.cell, HZ.out]; rfl
                have r2 : W5.cell? ⟨gr, 2, none⟩ = some (.int .u64 z2) := by rw [HGr5.out.cell, HZ.out]; rfl
                have r3 : W5.cell? ⟨gr, 3, none⟩ = some (.int .u64 z3) := by rw [HGr5.out.cell, HZ.out]; rfl
                have r4 : W5.cell? ⟨gr, 4, none⟩ = some (.int .u64 z4) := by rw [HGr5.out.cell, HZ.out]; rfl
                have r5 : W5.cell? ⟨gr, 5, none⟩ = some (.int .u64 z5) := by rw [HGr5.out.cell, HZ.out]; rfl
                have r6 : W5.cell? ⟨gr, 6, none⟩ = some (.int .u64 z6) := by rw [HGr5.out.cell, HZ.out]; rfl
                have r7 : W5.cell? ⟨gr, 7, none⟩ = some (.int .u64 z7) := by rw [HGr5.out.cell, HZ.out]; rfl
                have r8 : W5.cell? ⟨gr, 8, none⟩ = some (.int .u64 z8) := by rw [HGr5.out.cell, HZ.out]; rfl
                have r9 : W5.cell? ⟨gr, 9, none⟩ = some (.int .u64 z9) := by rw [HGr5.out.cell, HZ.out]; rfl
                have r10 : W5.cell? ⟨gr, 10, none⟩ = some (.int .u64 z10) := by rw [HGr5.out.cell, HZ.out]; rfl
                have r11 : W5.cell? ⟨gr, 11, none⟩ = some (.int .u64 z11) := by rw [HGr5.out.cell, HZ.out]; rfl
                have r12 : W5.cell? ⟨gr, 12, none⟩ = some (.int .u64 z12) := by rw [HGr5.out.cell, HZ.out]; rfl
                have r13 : W5.cell? ⟨gr, 13, none⟩ = some (.int .u64 z13) := by rw [HGr5.out.cell, HZ.out]; rfl
                have r14 : W5.cell? ⟨gr, 14, none⟩ = some (.int .u64 z14) := by rw [HGr5.out.cell, HZ.out]; rfl
                have r15 : W5.cell? ⟨gr, 15, none⟩ = some (.int .u64 z15) := by rw [HGr5.out.cell, HZ.out]; rfl
                go_wp2_with fail
                refine HOf2.out.mono ?_
                rintro e W6 ⟨tb, mbt, rfl, hs6, hb6⟩
                have HT6 := Lib.hid hs6
                have HS6 := Lib.hid (HS5.out.more (bk_grown_below hb6))
                have HGx6 := Lib.hid (HGx5.out.below hb6 HGx5.out.lt)
                have HSe6 := Lib.hid (HSe5.out.kept (bk_grown_below hb6) (by simp))
                have HX6 := Lib.hid (HX5.out.kept (bk_grown_below hb6) (own_none _))
                have HB6 := Lib.hid (HB5.out.trans (hb6.mono HB5.out.size))
                clear hs6 hb6 r0 r1 r2 r3 r4 r5 r6 r7 r8 r9 r10 r11 r12 r13 r14 r15
                obtain ⟨bn, hbn⟩ : ∃ bn, (bxs f 64).length = bn := ⟨_, rfl⟩
                have hbl := HBl.out
                obtain ⟨xA', xc', ex, _, hxr⟩ := Rd.of_own_cap HX6.out
                injection ex with ex1 ex2 ex3
                subst ex1 ex3
                have HXr : Hid (RdX W6 W6.heap.size xA bn (bxs f 64)) := ⟨by rw [← hbn]; exact hxr, hbn, fun b hb => by
                  obtain ⟨h1, h2, h3⟩ := (bxs_mem f 64 b).1 hb
                  refine ⟨⟨by omega, by omega⟩, ?_⟩
                  obtain ⟨ws, e1, e2, _⟩ := HV1.out.got (x := b.h) ⟨by omega, by omega⟩ (HV1.out.had ⟨by omega, by omega⟩ h3).1
                  rw [h3] at e1; cases e1; exact e2⟩
                have HSame : Hid (Calls Try.prog 26 #[.pointer (some ⟨sb, 0, none⟩), .agg #[.int .u64 z0, .int .u64 z1, .int .u64 z2, .int .u64 z3, .int .u64 z4, .int .u64 z5, .int .u64 z6, .int .u64 z7, .int .u64 z8, .int .u64 z9, .int .u64 z10, .int .u64 z11, .int .u64 z12, .int .u64 z13, .int .u64 z14, .int .u64 z15, .slice xA bn xc]] W6 fun e w' => e = .returned (.bool true) ∧ W6.grownBy w' none) := by
                  have h := lsame_any W3.heap.size n sb mbs ⟨rs, noZero f⟩ xA bn xc (bxs f 64) W6 HS6.out hnn1 HXr.out (boxed_all HF.out rs) (by omega)
                  have e : (u64s rs ++ [Value.slice xA bn xc]).toArray = #[.int .u64 z0, .int .u64 z1, .int .u64 z2, .int .u64 z3, .int .u64 z4, .int .u64 z5, .int .u64 z6, .int .u64 z7, .int .u64 z8, .int .u64 z9, .int .u64 z10, .int .u64 z11, .int .u64 z12, .int .u64 z13, .int .u64 z14, .int .u64 z15, .slice xA bn xc] := by rw [HZ.out]; rfl
                  rw [e] at h; exact h
                have HNn := Lib.hid (none_all HF.out rs)
                rw [hbn] at HGx6
                have s0 : W6.cell? ⟨gx, 0, none⟩ = some (.int .u64 z0) := by rw [HGx6.out.cell, HZ.out]; rfl
                have s1 : W6.cell? ⟨gx, 1, none⟩ = some (.int .u64 z1) := by rw [HGx6.out.cell, HZ.out]; rfl
                have s2 : W6.cell? ⟨gx, 2, none⟩ = some (.int .u64 z2) := by rw [HGx6.out.cell, HZ.out]; rfl
                have s3 : W6.cell? ⟨gx, 3, none⟩ = some (.int .u64 z3) := by rw [HGx6.out.cell, HZ.out]; rfl
                have s4 : W6.cell? ⟨gx, 4, none⟩ = some (.int .u64 z4) := by rw [HGx6.out.cell, HZ.out]; rfl
                have s5 : W6.cell? ⟨gx, 5, none⟩ = some (.int .u64 z5) := by rw [HGx6.out.cell, HZ.out]; rfl
                have s6 : W6.cell? ⟨gx, 6, none⟩ = some (.int .u64 z6) := by rw [HGx6.out.cell, HZ.out]; rfl
                have s7 : W6.cell? ⟨gx, 7, none⟩ = some (.int .u64 z7) := by rw [HGx6.out.cell, HZ.out]; rfl
                have s8 : W6.cell? ⟨gx, 8, none⟩ = some (.int .u64 z8) := by rw [HGx6.out.cell, HZ.out]; rfl
                have s9 : W6.cell? ⟨gx, 9, none⟩ = some (.int .u64 z9) := by rw [HGx6.out.cell, HZ.out]; rfl
                have s10 : W6.cell? ⟨gx, 10, none⟩ = some (.int .u64 z10) := by rw [HGx6.out.cell, HZ.out]; rfl
                have s11 : W6.cell? ⟨gx, 11, none⟩ = some (.int .u64 z11) := by rw [HGx6.out.cell, HZ.out]; rfl
                have s12 : W6.cell? ⟨gx, 12, none⟩ = some (.int .u64 z12) := by rw [HGx6.out.cell, HZ.out]; rfl
                have s13 : W6.cell? ⟨gx, 13, none⟩ = some (.int .u64 z13) := by rw [HGx6.out.cell, HZ.out]; rfl
                have s14 : W6.cell? ⟨gx, 14, none⟩ = some (.int .u64 z14) := by rw [HGx6.out.cell, HZ.out]; rfl
                have s15 : W6.cell? ⟨gx, 15, none⟩ = some (.int .u64 z15) := by rw [HGx6.out.cell, HZ.out]; rfl
                have s16 : W6.cell? ⟨gx, 16, none⟩ = some (.slice xA bn xc) := by rw [HGx6.out.cell, HZ.out]; rfl
                clear hxr hbl
                go_wp2_with fail
                refine HSame.out.mono ?_
                rintro e W7 ⟨rfl, hg7⟩
                have HS7 := Lib.hid (HS6.out.more hg7)
                have HT7 := Lib.hid (HT6.out.more hg7)
                have HSe7 := Lib.hid (HSe6.out.kept hg7 (by simp))
                have HB7 := Lib.hid (HB6.out.grown hg7 HB6.out.size (fun k e => by cases e))
                clear hg7 s0 s1 s2 s3 s4 s5 s6 s7 s8 s9 s10 s11 s12 s13 s14 s15 s16
                go_wp2_with fail
                refine (stsame_any _ _ _ _ _ _ _ _ _ _ _ HS7.out HT7.out).mono ?_
                rintro e W8 ⟨r, rfl, hr, hg8⟩
                have HB8 := Lib.hid (HB7.out.grown hg8 HB7.out.size (fun k e => by cases e))
                have hlen := fun ty => (HSe7.out.kept hg8 (by simp)).len (t := 59) Try.underlying59 ty
                have hiff : r = true ↔ Maps.size D = 0 := hr.trans (HNn.out.trans HSz.out.symm)
                obtain ⟨N, hN⟩ : ∃ N, Maps.size D = N := ⟨_, rfl⟩
                rw [hN] at hlen hiff
                clear hg8 hr hN
                cases r
                · have hN0 : N ≠ 0 := fun e => by have := hiff.2 e; cases this
                  have e0 : ((N : Int) == 0) = false := by simpa using hN0
                  clear hiff hN0
                  go_wp2
                  go_ret
                  exact ⟨rfl, HB8.out⟩
                · have hN0 : N = 0 := hiff.1 rfl
                  have e0 : ((N : Int) == 0) = true := by simpa using hN0
                  clear hiff hN0
                  go_wp2
                  go_ret
                  exact ⟨rfl, HB8.out⟩
            · intro x cv kl yd yp w1 cnt1 hkey hlx hv hat hrg1 hlt hg1 hs1 hen
              obtain ⟨k, rfl, rfl, hkw⟩ := Maps.keyOf_int_inv hKu hkey
              have HG1 : Hid (V.grownBy w1 none) := HG.out.andThen hg1 (fun j hj => by cases hj; exact Or.inl (Nat.le_refl _))
              have HRG1 := Lib.hid hrg1
              have HLT := Lib.hid hlt
              have HRG := Lib.hid hrg
              clear hkey hlx hv hat hrg1 hlt hg1 hrg HG
              by_cases hk64 : 64 < k
              · go_wp2
                go_ret
                exact ⟨rfl, HMq.out.below.grown HG1.out HMq.out.below.size (fun k e => by cases e)⟩
              · have H641 : Hid (∀ x, U64 x → Maps.has D1 (.int .u64 x) = true → (left (.int .u64 x) && !(Lit.int .u64 x).sameKey (.int .u64 k)) = false → x ≤ 64) := fun x hx hh hl => by
                  by_cases e : x = k
                  · omega
                  · rw [strike_ne e] at hl; exact H64.out x hx hh hl
                go_wp2
                go_roundw
                case rel => exact ⟨_, cnt1, HRG1.out, HG1, H641⟩
                case measure => rw [HRG1.out.left_eq, HRG.out.left_eq]; exact HLT.out
end Go.Proofs.Ytddaeaimimdonaa
