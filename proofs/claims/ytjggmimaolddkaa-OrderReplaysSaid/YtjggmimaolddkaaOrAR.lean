import Derived.Test.YtjggmimaolddkaaOrAQ
import Derived.KernelRfl
namespace Go.Proofs.Ytjggmimaolddkaa
open Go.RowKit
set_option linter.unusedVariables false
theorem pS : (∀ {α : Type} (l : List α) (i : Nat) (a : α), l.toArray.setIfInBounds i a = (l.set i a).toArray) ∧ (∀ {α : Type} (x : α) (l : List α) (a : α), (x :: l).set 0 a = a :: l) ∧ (∀ {α : Type} (x : α) (l : List α) (n : Nat) (a : α), (x :: l).set (n + 1) a = x :: l.set n a) :=
 ⟨fun l i a => List.setIfInBounds_toArray .., fun _ _ _ => rfl, fun _ _ _ _ => rfl⟩
section
variable {P : Program} {ops : Array Oper} {Q : Exit → Act → World → Prop} {md : Region.Mode} {S : World → Prop} {fuel : Nat} {listed : Array Bool} {a : Act} {w : World}
theorem takeA (i : Nat) {oi : Oper} {op : Op} {ty : TypeId} {d : Tmp} {v : Value} (h : wpAnyH P md ops Q S fuel (listed.setIfInBounds i true) (a.put (some d) v) w)
 (hi : ops[i]? = some oi := by rfl) (hop : oi.op = op := by rfl) (hty : oi.type = ty := by rfl) (hd : oi.dst = some d := by rfl)
 (hs : Region.noSelect ops = true := by kernel_rfl) (hf : Region.free md ops listed i = true := by kernel_rfl) (hr : (Region.ready md ops listed).contains i = true := by kernel_rfl)
 (hQ : ∀ c (a : Act) (d : Tmp) (v : Value) w, Q (.panic c) (a.put (some d) v) w → Q (.panic c) a w := by exact fun _ _ _ _ _ h => h) (hw : Region.wanted oi (yielded ops a.tmps) = true := by rfl) (hS : S w := by assumption)
 (hy : ∀ w, S w → (execOp a.eval (bareOp op ty)).run P w = .ok (.value v) w := by (intro w hSw; (try dsimp only at hSw); go_split_ands; go_simp; try with_reducible rfl)) : wpAnyH P md ops Q S (fuel + 1) listed a w :=
 takeH i hi hop hty hd hs hf hr hQ hw hS hy h
theorem skipA (i : Nat) {oi : Oper} {d : Tmp} (h : wpAnyH P md ops Q S fuel (listed.setIfInBounds i true) (a.put (some d) undef) w) (hi : ops[i]? = some oi := by rfl) (hd : oi.dst = some d := by rfl)
 (hs : Region.noSelect ops = true := by kernel_rfl) (hf : Region.free md ops listed i = true := by kernel_rfl) (hr : (Region.ready md ops listed).contains i = true := by kernel_rfl)
 (hQ : ∀ c (a : Act) (d : Tmp) (v : Value) w, Q (.panic c) (a.put (some d) v) w → Q (.panic c) a w := by exact fun _ _ _ _ _ h => h) (hw : Region.wanted oi (yielded ops a.tmps) = false := by rfl) (hS : S w := by assumption) : wpAnyH P md ops Q S (fuel + 1) listed a w :=
 skipH i hi hd hs hf hr hQ hw hS h
end
end Go.Proofs.Ytjggmimaolddkaa
namespace Go.Proofs.Ytjggmimaolddkaa
open Go.RowKit
set_option linter.unusedVariables false
theorem info_lmap : (Try.prog.info? 74).map (·.size) = some 24 := by kernel_rfl
theorem Bk.rangeAt {w : World} {g : Nat} {t : TypeId} {cs : Array Value} (h : Bk w g t cs) : w.rangeAt g 0 cs.toList := fun j v hv => by
 rw [Nat.zero_add, h.cell]
 simpa using hv
theorem CfgIn.info {M : Array Value} {c : Cfg} (hM : CfgIn M c) : (Try.prog.info? 74).map (·.size) = some M.size := by rw [info_lmap, hM.size]
set_option maxRecDepth 100000 in
set_option maxHeartbeats 2000000 in
theorem lcap_any (c : Cfg) (M : Array Value) (hM : CfgIn M c) (hR : c.Right) (w : World) : Calls Try.prog 46 #[.agg M] w fun e w' => e = .returned (.int .i64 c.cap) ∧ Below w.heap.size w w' := by
 have HE : Hid (c.cap = c.T * (c.W + 3) + 3 * c.lim + 2) := rfl
 have hT := hR.T
 have hW := hR.W
 have hb := hR.bounds.lim
 have hm3 := mul_bounds hT.1 hT.2 (show 3 ≤ c.W + 3 by omega) (show c.W + 3 ≤ 67 by omega) (by omega) (by omega)
 have hlim := fun W1 => llimit_any c M hM hR W1
 have hsz := hM.info
 have HM := Lib.hid hM
 obtain ⟨L, hL⟩ : ∃ L, c.lim = L := ⟨_, rfl⟩
 rw [hL] at HE hb hlim
 obtain ⟨T, B, W, FU, fi, la⟩ := c
 simp only at hT hW HE hb hm3 hlim
 obtain ⟨hb1, hb2⟩ := hb
 obtain ⟨hm1, hm2⟩ := hm3
 simp only [Int.reduceMul] at hm1 hm2
 have HB : Hid (Below w.heap.size w (w.alloc (.cells M 74))) := (Below.refl _ _).alloc (Nat.le_refl _) _
 have HK : Hid (Bk (w.alloc (.cells M 74)) w.heap.size 74 M) := Bk.new w _ _
 clear hM hR hL
 go_enter Try.func46, Try.ntmps46
 go_upto_region 1 with fail
 obtain ⟨W1, hW1⟩ : ∃ W1, w.alloc (.cells M 74) = W1 := ⟨_, rfl⟩
 rw [hW1] at HB HK ⊢
 have j0 : W1.cell? ⟨w.heap.size, 0, none⟩ = some (.int .i64 T) := (HK.out.cell 0).trans HM.out.c0
 have j2 : W1.cell? ⟨w.heap.size, 2, none⟩ = some (.int .i64 W) := (HK.out.cell 2).trans HM.out.c2
 have jr : W1.rangeAt w.heap.size 0 M.toList := HK.out.rangeAt
 have e1 : IntKind.i64.wrap (W + 3) = W + 3 := IntWalk.i64_in _ (by omega)
 have e2 : IntKind.i64.wrap (T * (W + 3)) = T * (W + 3) := IntWalk.i64_in _ (by omega)
 have e3 : IntKind.i64.wrap (3 * L) = 3 * L := IntWalk.i64_in _ (by omega)
 have e4 : IntKind.i64.wrap (T * (W + 3) + 3 * L) = T * (W + 3) + 3 * L := IntWalk.i64_in _ (by omega)
 have e5 : IntKind.i64.wrap (T * (W + 3) + 3 * L + 2) = T * (W + 3) + 3 * L + 2 := IntWalk.i64_in _ (by omega)
 clear hW1
 refine wp_region_held_drew (S := (fun w' => w'.rangeAt w.heap.size 0 M.toList ∧ w'.cell? ⟨w.heap.size, 0, none⟩ = some (.int .i64 T) ∧ w'.cell? ⟨w.heap.size, 2, none⟩ = some (.int .i64 W))) (by kernel_rfl) ?_ (fun hHeld => ?_)
 ·exact ⟨jr, j0, j2⟩
 refine takeA 0 ?_
 try simp only [Act.put, pS]
 refine takeA 1 ?_
 try simp only [Act.put, pS]
 refine takeA 2 ?_
 try simp only [Act.put, pS]
 refine takeA 3 ?_
 try simp only [Act.put, pS]
 refine takeA 4 ?_
 try simp only [Act.put, pS]
 refine takeA 5 ?_
 try simp only [Act.put, pS]
 refine takeA 6 ?_
 try simp only [Act.put, pS]
 refine takeA 7 ?_
 try simp only [Act.put, pS]
 refine loadH 8 rfl rfl rfl (by kernel_rfl) (by kernel_rfl) (by kernel_rfl) (fun _ _ _ _ _ h => h) (by rfl) (by assumption) rfl M Try.underlying74 rfl hsz ?_ ?_
 ·(intro w hSw; (try dsimp only at hSw); go_split_ands; assumption)
 try simp only [Act.put, pS]
 refine comeH 9 rfl rfl rfl rfl (by kernel_rfl) (by rfl) (fun K hK => ?_)
 go_simp
 refine (hlim _).mono ?_
 rintro e wn ⟨rfl, hbn⟩
 have HB := Lib.hid (HB.out.drew.trans (hbn.mono HB.out.size))
 have HK := Lib.hid (HK.out.drew.below hbn HK.out.drew.lt)
 clear hbn
 go_simp
 refine hK.out _ _ ?_ (fun hHeld => ?_)
 ·exact ⟨HK.out.rangeAt, (HK.out.cell 0).trans HM.out.c0, (HK.out.cell 2).trans HM.out.c2⟩
 clear hK K
 try simp only [Act.put, pS]
 refine takeA 10 ?_
 try simp only [Act.put, pS]
 refine takeA 11 ?_
 try simp only [Act.put, pS]
 refine takeA 12 ?_
 try simp only [Act.put, pS]
 refine takeA 13 ?_
 try simp only [Act.put, pS]
 refine wpAnyH_done (by kernel_rfl) ?_ _
 try simp only [Act.put, pS]
 go_wp2
 go_ret
 exact ⟨ret_int HE.out.symm, HB.out⟩
end Go.Proofs.Ytjggmimaolddkaa
