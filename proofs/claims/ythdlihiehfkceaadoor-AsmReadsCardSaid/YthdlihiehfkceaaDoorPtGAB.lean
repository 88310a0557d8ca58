/-
  Texts of one proof, joined (wip/gen/pack.py): RdsB.
-/
import Derived.Test.YthdlihiehfkceaaDoorPtGAA
import Derived.Test.YthdlihiehfkceaaDoorPtAF
import Derived.Test.YthdlihiehfkceaaDoorPtAB
namespace Go.Proofs.YthdlihiehfkceaaDoor
open Go.RowKit
set_option linter.unusedVariables false

theorem r_info_int : (Tryd.prog.info? 3).map (fun i => (i.zero, i.size, i.bytes)) = some (some (.int .i64 0), 1, 8) := by kernel_rfl
def intCells (r : List Int) : List Value := r.map fun x => .int .i64 x
theorem intCells_len (r : List Int) : (intCells r).length = r.length * 1 := by simp [intCells]
theorem intCells_one (r : List Int) : ∀ u ∈ intCells r, u.oneCell' = true := by
  intro u hu
  obtain ⟨x, _, rfl⟩ := List.mem_map.1 hu
  rfl
theorem intCells_at {r : List Int} {k : Nat} {x : Int} (h : r[k]? = some x) : (intCells r)[k]? = some (.int .i64 x) := by
  unfold intCells; rw [List.getElem?_map, h]; rfl
theorem regs_le (l : List Tok) : (regsL l).length ≤ l.length := by unfold regsL; exact List.length_filterMap_le _ _

set_option maxRecDepth 100000 in
set_option maxHeartbeats 4000000 in
theorem rregs_any (l : List Tok) (A : Option Addr) (n c : Nat) (w : World) (hr : RdT w w.heap.size A n l) (hn : n ≤ 100000) :
    Calls Tryd.prog 63 #[.slice A n c] w fun e w' => ∃ v, e = .returned v ∧ w'.ownsRow w.heap.size 3 1 v (regsL l).length (intCells (regsL l)) ∧ Below w.heap.size w w' := by
  obtain ⟨i0, hi0, hz0, hz1, hz2⟩ := info_parts r_info_int
  have hlen := hr.tokLen
  have HR := Lib.hid hr
  have HLen := Lib.hid hlen
  clear hr hlen
  go_enter Tryd.func63, Tryd.ntmps63
  have OWN0 : Hid ((w.alloc (.cells #[] 3)).ownsRow w.heap.size 3 1 (.slice (some ⟨w.heap.size, 0, none⟩) 0 0) 0 (intCells [])) := World.ownsRow_made w #[] 0 (Nat.le_refl _) (by simp [maxLen]) rfl
  have HB0 : Hid (Below w.heap.size w (w.alloc (.cells #[] 3))) := (Below.refl _ _).alloc (Nat.le_refl _) _
  go_wp2
  go_loopw [3, 4] (fun ov i wr => ∃ (k : Nat), (k ≤ n ∧ i = .int .i64 k) ∧ Hid (wr.ownsRow w.heap.size 3 1 ov (regsL (l.take k)).length (intCells (regsL (l.take k)))) ∧ Hid (Below w.heap.size w wr)) (fun _ i _ => n - (intOf i).toNat)
  case atStart => exact ⟨0, ⟨by omega, rfl⟩, OWN0.out, HB0.out⟩
  case round =>
    clear OWN0 HB0
    obtain ⟨k, ⟨hk, rfl⟩, HO, HB⟩ := hrel
    obtain ⟨ov', co, rfl, hkc, _⟩ := Rd.of_own_cap HO.out
    by_cases hlt : k < n
    · have hlti : (k : Int) < (n : Int) := by omega
      obtain ⟨b, o, ⟨kd, tx, nu, ta, tl⟩, rfl, hbB, ht, c0, c1, c2, c3, c4⟩ := (HR.out.below HB.out).tokAt hlt
      have hrl : (regsL (l.take k)).length ≤ 100000 := Nat.le_trans (regs_le _) (by rw [List.length_take]; omega)
      have HTk : Hid (regsL (l.take (k + 1)) = regsL (l.take k) ++ (if kd = 0 ∧ 0 ≤ regP tx then [regP tx] else [])) := by
        show _ = _
        rw [List.take_add_one, ht]
        unfold regsL
        rw [List.filterMap_append]
        congr 1
        show List.filterMap _ [_] = _
        rw [List.filterMap_cons]
        simp only
        by_cases h : kd = 0 ∧ 0 ≤ regP tx
        · rw [if_pos h, if_pos h]; rfl
        · rw [if_neg h, if_neg h]; rfl
      have HRt := Lib.hid (rregister_any tx wr)
      obtain ⟨R, hR⟩ : ∃ R, regsL (l.take k) = R := ⟨_, rfl⟩
      rw [hR] at HO HTk hrl hkc ⊢
      clear hR ht
      by_cases h0 : kd = 0
      · subst h0
        by_cases hrg : 0 ≤ regP tx
        · rw [if_pos ⟨rfl, hrg⟩] at HTk
          generalize regP tx = rx at HRt HTk hrg
          have hrgi : (rx ≥ (0 : Int)) := hrg
          go_upto_region 7 with (
            go_at_call 62
            refine HRt.out.mono ?_
            rintro e w2 ⟨rfl, hb2⟩
            have HB2 := Lib.hid (HB.out.trans (hb2.mono HB.out.size))
            have HO2 := Lib.hid (own_below HO.out hb2)
            have d0 : w2.cell? ⟨b, o + k * 5, none⟩ = some (.int .i64 0) := (hb2.cell (p := ⟨b, o + k * 5, none⟩) (World.block_lt_of_cell? _ _ c0)).trans c0
            clear hb2 c0 c1 c2 c3 c4)
          have HOa := Lib.hid (HO2.out.alloc (.cells #[.int .i64 rx] 3))
          have HBa := Lib.hid (HB2.out.alloc HB2.out.size (.cells #[.int .i64 rx] 3))
          have hz3 := HBa.out.size
          have Ra : Hid (Rd (w2.alloc (.cells #[.int .i64 rx] 3)) (w2.heap.size + 1) 1 (some ⟨w2.heap.size, 0, none⟩) 1 (intCells [rx])) := Rd.new w2 _ _ (size := 1) (m := 1) rfl (by simp [maxLen])
          go_wp2_with (
            at_builtin
            go_must (
              refine wpList_app _ rfl (.tmp 29) (.tmp 31) 88 rfl w.heap.size 3 i0 _ 1 8 Tryd.underlying88 hi0 hz0 hz1 hz2 rfl (by omega) _ R.length _ rfl HOa.out _ _ 1 _ _ rfl Ra.out (intCells_one _) ?_ ?_ ?_ ?_
              · simp only [maxLen]; omega
              · omega
              · exact hz3
              intro v5 w5 hown5 hg5 _
              have HO5 := Lib.hid hown5
              have HB5 := Lib.hid (below_own HBa.out HOa.out hg5 (Nat.le_refl _) hz3)
              clear hown5 hg5))
          go_roundw
          case rel =>
            refine ⟨k + 1, ⟨by omega, by go_num⟩, ?_, HB5.out⟩
            show World.ownsRow _ _ _ _ _ _ _
            rw [HTk.out]
            have h := HO5.out
            rw [show intCells R ++ intCells [rx] = intCells (R ++ [rx]) by simp [intCells]] at h
            rw [List.length_append]
            exact h
          case measure => simp [intOf]; omega
        · rw [if_neg (fun h => hrg h.2), List.append_nil] at HTk
          generalize regP tx = rx at HRt HTk hrg
          have hrgi : ¬ (rx ≥ (0 : Int)) := hrg
          go_wp2_with (
            go_at_call 62
            refine HRt.out.mono ?_
            rintro e w2 ⟨rfl, hb2⟩
            have HB2 := Lib.hid (HB.out.trans (hb2.mono HB.out.size))
            have HO2 := Lib.hid (own_below HO.out hb2)
            have d0 : w2.cell? ⟨b, o + k * 5, none⟩ = some (.int .i64 0) := (hb2.cell (p := ⟨b, o + k * 5, none⟩) (World.block_lt_of_cell? _ _ c0)).trans c0
            clear hb2 c0 c1 c2 c3 c4)
          go_roundw
          case rel =>
            refine ⟨k + 1, ⟨by omega, by go_num⟩, ?_, HB2.out⟩
            show World.ownsRow _ _ _ _ _ _ _
            rw [HTk.out]
            exact HO2.out
          case measure => simp [intOf]; omega
      · rw [if_neg (fun h => h0 h.1), List.append_nil] at HTk
        generalize regP tx = rx at HRt HTk
        have hk0 : (kd == 0) = false := beq_eq_false_iff_ne.2 h0
        go_wp2_with (
          go_at_call 62
          refine HRt.out.mono ?_
          rintro e w2 ⟨rfl, hb2⟩
          have HB2 := Lib.hid (HB.out.trans (hb2.mono HB.out.size))
          have HO2 := Lib.hid (own_below HO.out hb2)
          have d0 : w2.cell? ⟨b, o + k * 5, none⟩ = some (.int .i64 kd) := (hb2.cell (p := ⟨b, o + k * 5, none⟩) (World.block_lt_of_cell? _ _ c0)).trans c0
          clear hb2 c0 c1 c2 c3 c4)
        go_roundw
        case rel =>
          refine ⟨k + 1, ⟨by omega, by go_num⟩, ?_, HB2.out⟩
          show World.ownsRow _ _ _ _ _ _ _
          rw [HTk.out]
          exact HO2.out
        case measure => simp [intOf]; omega
    · obtain rfl : k = n := by omega
      have hT : l.take k = l := List.take_of_length_le (by rw [HLen.out]; exact Nat.le_refl _)
      have hO := HO.out
      rw [hT] at hO ⊢
      have HOf := Lib.hid hO
      clear hO hT
      go_wp2
      go_ret
      exact ⟨_, rfl, HOf.out, HB.out⟩

theorem bkSetOff {w : World} {g : Nat} {t : TypeId} {cs : Array Value} (h : Bk w g t cs) {p : Addr} (hp : p.block ≠ g) (u : Value) : Bk (w.setCell p u) g t cs := by
  unfold Bk at h ⊢
  simp [World.setCell, Array.getElem?_modify, h, hp]
theorem own_one (w : World) (u : Value) (t : TypeId) : (w.alloc (.cells #[u] t)).ownsRow w.heap.size t 1 (.slice (some ⟨w.heap.size, 0, none⟩) 1 1) 1 [u] :=
  ⟨rfl, .inr ⟨w.heap.size, 1, #[u], rfl, Nat.le_refl _, Bk.new w t #[u], Nat.le_refl _, by simp [maxLen], rfl, rfl⟩⟩
theorem numGoL_snoc : ∀ (l : List Tok) (t : Tok) (m : Int), numGoL (l ++ [t]) m = if t.kind = 1 then t.num else numGoL l m
  | [], t, m => rfl
  | x :: l, t, m => by rw [List.cons_append, numGoL, numGoL_snoc l t, numGoL]
theorem info_inst5 : (Tryd.prog.info? 35).map (·.size) = some 5 := by kernel_rfl
theorem res_inst {fn : Func} (hr : fn.results = #[.cell 4 35]) (tmps : Array Value) (w : World) (g : Nat) (cs : Array Value) (h5 : cs.size = 5) (hp : tmps.getD 4 undef = .pointer (some ⟨g, 0, none⟩)) (hg : Bk w g 35 cs) :
    (results fn tmps).run Tryd.prog w = .ok (.agg cs) w :=
  results_cell_row hr tmps w g _ cs _ _ hp hg Tryd.underlying35 rfl (by rw [h5]; exact info_inst5)


set_option maxRecDepth 100000 in
set_option maxHeartbeats 8000000 in
/-- Line, once its registers are in order: regions 5 and on are walked alike. -/
theorem rline_any (op : Int) (l : List Tok) (A : Option Addr) (n c : Nat) (w : World) (hr : RdT w w.heap.size A n l) (hn : n ≤ 100000) (hm3 : (regsL l).length ≤ 3) (hrot : (op = 10 ∨ op = 13 → (regsL l).length = 2) ∧ (op = 14 → (regsL l).length = 3)) :
    Calls Tryd.prog 42 #[.int .i64 op, .slice A n c] w fun e w' => e = .returned (.agg (lineL op l).cells.toArray) ∧ Below w.heap.size w w' := by
  obtain ⟨i0, hi0, hz0, hz1, hz2⟩ := info_parts r_info_int
  have hlen := hr.tokLen
  have HR := Lib.hid hr
  have HLen := Lib.hid hlen
  clear hr hlen
  obtain ⟨r, hrr⟩ : ∃ r, regsL l = r := ⟨_, rfl⟩
  have HRr := Lib.hid hrr
  rw [hrr] at hm3 hrot
  clear hrr
  go_enter Tryd.func42, Tryd.ntmps42
  go_upto_region 2 with fail
  obtain ⟨W0, hW0⟩ : ∃ W0, (w.alloc (.cells #[.int .i64 0, .int .i64 0, .int .i64 0, .int .i64 0, .int .u64 0] 35)).alloc (.cells #[.int .i64 op, .int .i64 0, .int .i64 0, .int .i64 0, .int .u64 0] 35) = W0 := ⟨_, rfl⟩
  rw [hW0]
  have HZ0 : Hid (Bk W0 w.heap.size 35 #[.int .i64 0, .int .i64 0, .int .i64 0, .int .i64 0, .int .u64 0]) := by show Bk _ _ _ _; rw [← hW0]; exact (Bk.new w _ _).alloc _
  have HI0 : Hid (Bk W0 (w.heap.size + 1) 35 #[.int .i64 op, .int .i64 0, .int .i64 0, .int .i64 0, .int .u64 0]) := by show Bk _ _ _ _; rw [← hW0]; exact a_bk_new2 _ _ _ _
  have HB0 : Hid (Below w.heap.size w W0) := by show Below _ _ _; rw [← hW0]; exact ((Below.refl _ _).alloc (Nat.le_refl _) _).alloc (by simp) _
  have HS0 : Hid (W0.heap.size = w.heap.size + 2) := by show _ = _; rw [← hW0]; simp
  clear hW0
  go_upto_region 3 with (
    go_at_call 63
    refine (rregs_any l A n c W0 ((HR.out.below HB0.out).more HB0.out.size) hn).mono ?_
    rintro e w1 ⟨v, rfl, hown, hb1⟩
    have HZ1 := Lib.hid (HZ0.out.below hb1 HZ0.out.lt)
    have HI1 := Lib.hid (HI0.out.below hb1 HI0.out.lt)
    have HB1 := Lib.hid (HB0.out.trans (hb1.mono HB0.out.size))
    rw [HRr.out] at hown
    obtain ⟨ov, co, rfl, hrc, hrd⟩ := Rd.of_own_cap hown
    have HOw := Lib.hid hown
    have HRd := Lib.hid hrd
    clear hb1 hown hrd)
  have hs0 := HS0.out
  have hsw : w.heap.size + 1 < w1.heap.size := HI1.out.lt
  by_cases hro : op = 10 ∨ op = 13 ∨ op = 14
  · rcases hro with h10 | h13 | h14
    · have hm := hrot.1 (.inl h10)
      clear hrot
      obtain ⟨x0, x1, rfl⟩ : ∃ x0 x1, r = [x0, x1] := by match r, hm with | [x0, x1], _ => exact ⟨_, _, rfl⟩
      have hro : op = 10 ∨ op = 13 ∨ op = 14 := by omega
      have e10 : (op == 10) = true := by simp [h10]
      have HFin : Hid ((lineL op l).cells.toArray = #[.int .i64 op, .int .i64 x1, .int .i64 x0, .int .i64 0, .int .u64 (numGoL l 0)]) := by
        show _ = _
        unfold lineL
        rw [HRr.out]
        unfold rotL
        rw [if_pos hro]; rfl
      obtain ⟨g, o, rfl, hgB, hcs⟩ := HRd.out.at_ (show 0 < _ by simp)
      have hgb := (HOw.out.lt g rfl).1
      have v0 : w1.cell? ⟨g, o + 0, none⟩ = some (.int .i64 x0) := hcs 0 _ rfl
      have v1 : w1.cell? ⟨g, o + 1, none⟩ = some (.int .i64 x1) := hcs 1 _ rfl
      simp only [Nat.add_zero] at v0
      simp only [List.length_cons, List.length_nil, Nat.zero_add, Nat.reduceAdd] at hrc HOw HRd ⊢
      have hrci : (1 : Int) ≤ (co : Int) := by omega
      have hrcj : ¬ (co : Int) < 1 := by omega
      have hwr : IntKind.i64.wrap 1 = 1 := by decide
      have vD : w1.drew.cell? ⟨g, o + 1, none⟩ = some (.int .i64 x1) := v1
      clear hro h10
      all_goals
        go_upto_region 4 with fail
        obtain ⟨Wa, hWa⟩ : ∃ Wa, (w1.alloc (.cells #[.int .i64 x1] 3)).drew = Wa := ⟨_, rfl⟩
        have OA : Hid (Wa.ownsRow w1.heap.size 3 1 (.slice (some ⟨w1.heap.size, 0, none⟩) 1 1) 1 (intCells [x1])) := by show World.ownsRow _ _ _ _ _ _ _; rw [← hWa]; have h0 : (w1.alloc (.cells #[.int .i64 x1] 3)).ownsRow w1.heap.size 3 1 (.slice (some ⟨w1.heap.size, 0, none⟩) 1 1) 1 [.int .i64 x1] := own_one w1 _ _; exact h0.drew
        have RA : Hid (Rd Wa w1.heap.size 1 (some ⟨g, o, none⟩) 1 (intCells [x0])) := by
          show Rd _ _ _ _ _ _
          rw [← hWa]
          refine (Rd.alloc (w := w1) ⟨rfl, by simp [maxLen], fun _ => ⟨g, o, rfl, hgB, fun j u hu => ?_⟩⟩ (Nat.le_refl _) _).drew
          have hj : j < 1 := by have := (List.getElem?_eq_some_iff.1 hu).1; simpa [intCells] using this
          obtain rfl : j = 0 := by omega
          · injection hu with hu; subst hu; exact v0
    
        have KI := Lib.hid (HI1.out.alloc (.cells #[.int .i64 x1] 3)).drew
        have KZ := Lib.hid (HZ1.out.alloc (.cells #[.int .i64 x1] 3)).drew
        have BA := Lib.hid (HB1.out.alloc HB1.out.size (.cells #[.int .i64 x1] 3)).drew
        have zA : Hid (w1.heap.size ≤ Wa.heap.size) := by show _ ≤ _; rw [← hWa]; simp
        rw [hWa] at KI KZ BA
        have HWa := Lib.hid hWa
        clear hWa
        go_region_law (
          rw [HWa.out]
          refine step_app _ (by rfl) (.tmp 28) (.tmp 33) 88 (by rfl) w1.heap.size 3 i0 _ 1 8 Tryd.underlying88 hi0 hz0 hz1 hz2 rfl (by decide) _ 1 _ (by rfl) OA.out w1.heap.size (some ⟨g, o, none⟩) 1 co _ (by rfl) RA.out (intCells_one _) (by simp [maxLen]) (by decide) zA.out ?_
          intro v5 w5 hown5 hg5 _
          obtain ⟨A5, c5, hv5, _, hr5⟩ := Rd.of_own_cap hown5
          subst hv5
          have HO5 := Lib.hid hown5
          have HR5 := Lib.hid hr5
          have L1 := Lib.hid (KI.out.grown hg5 (fun e => by have := (OA.out.lt _ e).1; omega))
          have L0 := Lib.hid (KZ.out.grown hg5 (fun e => by have := (OA.out.lt _ e).1; omega))
          have LB := Lib.hid (below_own BA.out OA.out hg5 (by omega) BA.out.size)
          clear hown5 hg5 hr5)
        all_goals
          obtain ⟨g5, o5, rfl, hgB5, hcs5⟩ := HR5.out.at_ (by decide)
          have hgb5 := (HO5.out.lt g5 rfl).1
          have hne : ¬ g5 = w.heap.size + 1 := by omega
          have hne2 : ¬ w.heap.size + 1 = g5 := by omega
          have p0 : w5.cell? ⟨g5, o5 + 0, none⟩ = some (.int .i64 x1) := hcs5 0 _ rfl
          have p1 : w5.cell? ⟨g5, o5 + 1, none⟩ = some (.int .i64 x0) := hcs5 1 _ rfl
          simp only [Nat.add_zero] at p0
          clear v0 v1
          have y0 := L1.out.frozen 0
          have y1 := L1.out.frozen 1
          have y2 := L1.out.frozen 2
          have y3 := L1.out.frozen 3
          have y4 := L1.out.frozen 4
          have u0 : w5.cell? ⟨w.heap.size + 1, 0, none⟩ = some (.int .i64 op) := L1.out.cell 0
          have u1 : w5.cell? ⟨w.heap.size + 1, 1, none⟩ = some (.int .i64 0) := L1.out.cell 1
          have u2 : w5.cell? ⟨w.heap.size + 1, 2, none⟩ = some (.int .i64 0) := L1.out.cell 2
          have u3 : w5.cell? ⟨w.heap.size + 1, 3, none⟩ = some (.int .i64 0) := L1.out.cell 3
          go_upto_region 11 with fail
          obtain ⟨V', hV'⟩ : ∃ V', ((w5.setCell ⟨w.heap.size + 1, 1, none⟩ (.int .i64 x1)).setCell ⟨w.heap.size + 1, 2, none⟩ (.int .i64 x0)) = V' := ⟨_, rfl⟩
          (try rw [hV'])
          have HI : Hid (Bk V' (w.heap.size + 1) 35 #[.int .i64 op, .int .i64 x1, .int .i64 x0, .int .i64 0, .int .u64 (numGoL (l.take 0) 0)]) := by show Bk _ _ _ _; rw [← hV']; exact ((L1.out.set_ 1 (.int .i64 x1)).set_ 2 (.int .i64 x0))
          have HZ : Hid (Bk V' w.heap.size 35 #[.int .i64 0, .int .i64 0, .int .i64 0, .int .i64 0, .int .u64 0]) := by show Bk _ _ _ _; rw [← hV']; exact (bkSetOff (bkSetOff L0.out (p := ⟨w.heap.size + 1, 1, none⟩) (by simp) (.int .i64 x1)) (p := ⟨w.heap.size + 1, 2, none⟩) (by simp) (.int .i64 x0))
          have HBv : Hid (Below w.heap.size w V') := by show Below _ _ _; rw [← hV']; exact ((LB.out.setCell (p := ⟨w.heap.size + 1, 1, none⟩) (by show w.heap.size ≤ w.heap.size + 1; omega) (.int .i64 x1)).setCell (p := ⟨w.heap.size + 1, 2, none⟩) (by show w.heap.size ≤ w.heap.size + 1; omega) (.int .i64 x0))
          clear hV' y0 y1 y2 y3 y4 u0 u1 u2 u3
          go_wp2
          go_loopw [7] (fun i wr => ∃ (k : Nat), (k ≤ n ∧ i = .int .i64 k) ∧ Hid (Bk wr (w.heap.size + 1) 35 #[.int .i64 op, .int .i64 x1, .int .i64 x0, .int .i64 0, .int .u64 (numGoL (l.take k) 0)]) ∧ Hid (Bk wr w.heap.size 35 #[.int .i64 0, .int .i64 0, .int .i64 0, .int .i64 0, .int .u64 0]) ∧ Hid (Below w.heap.size w wr)) (fun i _ => n - (intOf i).toNat)
          case atStart => exact ⟨0, ⟨by omega, rfl⟩, HI.out, HZ.out, HBv.out⟩
          case round =>
            obtain ⟨k, ⟨hk, rfl⟩, HI', HZ', HB'⟩ := hrel
            by_cases hlt : k < n
            · have hlti : (k : Int) < (n : Int) := by omega
              obtain ⟨b, o, ⟨kd, tx, nu, ta, tl⟩, rfl, hbB, ht, c0, c1, c2, c3, c4⟩ := (HR.out.below HB'.out).tokAt hlt
              have HTk : Hid (numGoL (l.take (k + 1)) 0 = if kd = 1 then nu else numGoL (l.take k) 0) := by
                show _ = _
                rw [List.take_add_one, ht]
                exact numGoL_snoc _ _ _
              have hws : w.heap.size + 1 < wr.heap.size := HI'.out.lt
              have y4 := HI'.out.frozen 4
              have y4b : wr.cell? ⟨w.heap.size + 1, 4, none⟩ = some (.int .u64 (numGoL (l.take k) 0)) := HI'.out.cell 4
              clear ht
              by_cases h1 : kd = 1
              · subst h1
                rw [if_pos rfl] at HTk
                go_wp2
                go_roundw
                case rel =>
                  refine ⟨k + 1, ⟨by omega, by go_num⟩, ?_, bkSetOff HZ'.out (p := ⟨w.heap.size + 1, 4, none⟩) (by simp) _, HB'.out.setCell (p := ⟨w.heap.size + 1, 4, none⟩) (by show w.heap.size ≤ w.heap.size + 1; omega) _⟩
                  show Bk _ _ _ _
                  rw [HTk.out]
                  exact HI'.out.set_ 4 _
                case measure => simp [intOf]; omega
              · rw [if_neg h1] at HTk
                have hk1 : (kd == 1) = false := beq_eq_false_iff_ne.2 h1
                go_wp2
                go_roundw
                case rel =>
                  refine ⟨k + 1, ⟨by omega, by go_num⟩, ?_, HZ'.out, HB'.out⟩
                  show Bk _ _ _ _
                  rw [HTk.out]
                  exact HI'.out
                case measure => simp [intOf]; omega
            · obtain rfl : k = n := by omega
              have hT : l.take k = l := List.take_of_length_le (by rw [HLen.out]; exact Nat.le_refl _)
              rw [hT] at HI'
              clear hT
              have q0 : wr.cell? ⟨w.heap.size + 1, 0, none⟩ = some (.int .i64 op) := HI'.out.cell 0
              have q1 : wr.cell? ⟨w.heap.size + 1, 1, none⟩ = some (.int .i64 x1) := HI'.out.cell 1
              have q2 : wr.cell? ⟨w.heap.size + 1, 2, none⟩ = some (.int .i64 x0) := HI'.out.cell 2
              have q3 : wr.cell? ⟨w.heap.size + 1, 3, none⟩ = some (.int .i64 0) := HI'.out.cell 3
              have q4 : wr.cell? ⟨w.heap.size + 1, 4, none⟩ = some (.int .u64 (numGoL l 0)) := HI'.out.cell 4
              have z0 : wr.cell? ⟨w.heap.size, 0, none⟩ = some (.int .i64 0) := HZ'.out.cell 0
              have s0 := HZ'.out.frozen 0
              have z1 : wr.cell? ⟨w.heap.size, 1, none⟩ = some (.int .i64 0) := HZ'.out.cell 1
              have s1 := HZ'.out.frozen 1
              have z2 : wr.cell? ⟨w.heap.size, 2, none⟩ = some (.int .i64 0) := HZ'.out.cell 2
              have s2 := HZ'.out.frozen 2
              have z3 : wr.cell? ⟨w.heap.size, 3, none⟩ = some (.int .i64 0) := HZ'.out.cell 3
              have s3 := HZ'.out.frozen 3
              have z4 : wr.cell? ⟨w.heap.size, 4, none⟩ = some (.int .u64 0) := HZ'.out.cell 4
              have s4 := HZ'.out.frozen 4
              go_wp2
              (try simp only [Exit.inBlock, Exit.then])
              refine bodyPost_ret (v := .agg #[.int .i64 op, .int .i64 x1, .int .i64 x0, .int .i64 0, .int .u64 (numGoL l 0)]) ?_ rfl ⟨?_, ?_⟩
              · have hbk := a_five HZ'.out (.int .i64 op) (.int .i64 x1) (.int .i64 x0) (.int .i64 0) (.int .u64 (numGoL l 0))
                exact res_inst rfl _ _ w.heap.size _ rfl rfl hbk
              · rw [HFin.out]
              · exact a_below_five HB'.out (Nat.le_refl _) _ _ _ _ _
    · have hm := hrot.1 (.inr h13)
      clear hrot
      obtain ⟨x0, x1, rfl⟩ : ∃ x0 x1, r = [x0, x1] := by match r, hm with | [x0, x1], _ => exact ⟨_, _, rfl⟩
      have hro : op = 10 ∨ op = 13 ∨ op = 14 := by omega
      have e10 : (op == 10) = false := beq_eq_false_iff_ne.2 (by omega)
      have e13 : (op == 13) = true := by simp [h13]
      have HFin : Hid ((lineL op l).cells.toArray = #[.int .i64 op, .int .i64 x1, .int .i64 x0, .int .i64 0, .int .u64 (numGoL l 0)]) := by
        show _ = _
        unfold lineL
        rw [HRr.out]
        unfold rotL
        rw [if_pos hro]; rfl
      obtain ⟨g, o, rfl, hgB, hcs⟩ := HRd.out.at_ (show 0 < _ by simp)
      have hgb := (HOw.out.lt g rfl).1
      have v0 : w1.cell? ⟨g, o + 0, none⟩ = some (.int .i64 x0) := hcs 0 _ rfl
      have v1 : w1.cell? ⟨g, o + 1, none⟩ = some (.int .i64 x1) := hcs 1 _ rfl
      simp only [Nat.add_zero] at v0
      simp only [List.length_cons, List.length_nil, Nat.zero_add, Nat.reduceAdd] at hrc HOw HRd ⊢
      have hrci : (1 : Int) ≤ (co : Int) := by omega
      have hrcj : ¬ (co : Int) < 1 := by omega
      have hwr : IntKind.i64.wrap 1 = 1 := by decide
      have vD : w1.drew.cell? ⟨g, o + 1, none⟩ = some (.int .i64 x1) := v1
      clear hro h13
      all_goals
        go_upto_region 4 with fail
        obtain ⟨Wa, hWa⟩ : ∃ Wa, (w1.alloc (.cells #[.int .i64 x1] 3)).drew = Wa := ⟨_, rfl⟩
        have OA : Hid (Wa.ownsRow w1.heap.size 3 1 (.slice (some ⟨w1.heap.size, 0, none⟩) 1 1) 1 (intCells [x1])) := by show World.ownsRow _ _ _ _ _ _ _; rw [← hWa]; have h0 : (w1.alloc (.cells #[.int .i64 x1] 3)).ownsRow w1.heap.size 3 1 (.slice (some ⟨w1.heap.size, 0, none⟩) 1 1) 1 [.int .i64 x1] := own_one w1 _ _; exact h0.drew
        have RA : Hid (Rd Wa w1.heap.size 1 (some ⟨g, o, none⟩) 1 (intCells [x0])) := by
          show Rd _ _ _ _ _ _
          rw [← hWa]
          refine (Rd.alloc (w := w1) ⟨rfl, by simp [maxLen], fun _ => ⟨g, o, rfl, hgB, fun j u hu => ?_⟩⟩ (Nat.le_refl _) _).drew
          have hj : j < 1 := by have := (List.getElem?_eq_some_iff.1 hu).1; simpa [intCells] using this
          obtain rfl : j = 0 := by omega
          · injection hu with hu; subst hu; exact v0
    
        have KI := Lib.hid (HI1.out.alloc (.cells #[.int .i64 x1] 3)).drew
        have KZ := Lib.hid (HZ1.out.alloc (.cells #[.int .i64 x1] 3)).drew
        have BA := Lib.hid (HB1.out.alloc HB1.out.size (.cells #[.int .i64 x1] 3)).drew
        have zA : Hid (w1.heap.size ≤ Wa.heap.size) := by show _ ≤ _; rw [← hWa]; simp
        rw [hWa] at KI KZ BA
        have HWa := Lib.hid hWa
        clear hWa
        go_region_law (
          rw [HWa.out]
          refine step_app _ (by rfl) (.tmp 28) (.tmp 33) 88 (by rfl) w1.heap.size 3 i0 _ 1 8 Tryd.underlying88 hi0 hz0 hz1 hz2 rfl (by decide) _ 1 _ (by rfl) OA.out w1.heap.size (some ⟨g, o, none⟩) 1 co _ (by rfl) RA.out (intCells_one _) (by simp [maxLen]) (by decide) zA.out ?_
          intro v5 w5 hown5 hg5 _
          obtain ⟨A5, c5, hv5, _, hr5⟩ := Rd.of_own_cap hown5
          subst hv5
          have HO5 := Lib.hid hown5
          have HR5 := Lib.hid hr5
          have L1 := Lib.hid (KI.out.grown hg5 (fun e => by have := (OA.out.lt _ e).1; omega))
          have L0 := Lib.hid (KZ.out.grown hg5 (fun e => by have := (OA.out.lt _ e).1; omega))
          have LB := Lib.hid (below_own BA.out OA.out hg5 (by omega) BA.out.size)
          clear hown5 hg5 hr5)
        all_goals
          obtain ⟨g5, o5, rfl, hgB5, hcs5⟩ := HR5.out.at_ (by decide)
          have hgb5 := (HO5.out.lt g5 rfl).1
          have hne : ¬ g5 = w.heap.size + 1 := by omega
          have hne2 : ¬ w.heap.size + 1 = g5 := by omega
          have p0 : w5.cell? ⟨g5, o5 + 0, none⟩ = some (.int .i64 x1) := hcs5 0 _ rfl
          have p1 : w5.cell? ⟨g5, o5 + 1, none⟩ = some (.int .i64 x0) := hcs5 1 _ rfl
          simp only [Nat.add_zero] at p0
          clear v0 v1
          have y0 := L1.out.frozen 0
          have y1 := L1.out.frozen 1
          have y2 := L1.out.frozen 2
          have y3 := L1.out.frozen 3
          have y4 := L1.out.frozen 4
          have u0 : w5.cell? ⟨w.heap.size + 1, 0, none⟩ = some (.int .i64 op) := L1.out.cell 0
          have u1 : w5.cell? ⟨w.heap.size + 1, 1, none⟩ = some (.int .i64 0) := L1.out.cell 1
          have u2 : w5.cell? ⟨w.heap.size + 1, 2, none⟩ = some (.int .i64 0) := L1.out.cell 2
          have u3 : w5.cell? ⟨w.heap.size + 1, 3, none⟩ = some (.int .i64 0) := L1.out.cell 3
          go_upto_region 11 with fail
          obtain ⟨V', hV'⟩ : ∃ V', ((w5.setCell ⟨w.heap.size + 1, 1, none⟩ (.int .i64 x1)).setCell ⟨w.heap.size + 1, 2, none⟩ (.int .i64 x0)) = V' := ⟨_, rfl⟩
          (try rw [hV'])
          have HI : Hid (Bk V' (w.heap.size + 1) 35 #[.int .i64 op, .int .i64 x1, .int .i64 x0, .int .i64 0, .int .u64 (numGoL (l.take 0) 0)]) := by show Bk _ _ _ _; rw [← hV']; exact ((L1.out.set_ 1 (.int .i64 x1)).set_ 2 (.int .i64 x0))
          have HZ : Hid (Bk V' w.heap.size 35 #[.int .i64 0, .int .i64 0, .int .i64 0, .int .i64 0, .int .u64 0]) := by show Bk _ _ _ _; rw [← hV']; exact (bkSetOff (bkSetOff L0.out (p := ⟨w.heap.size + 1, 1, none⟩) (by simp) (.int .i64 x1)) (p := ⟨w.heap.size + 1, 2, none⟩) (by simp) (.int .i64 x0))
          have HBv : Hid (Below w.heap.size w V') := by show Below _ _ _; rw [← hV']; exact ((LB.out.setCell (p := ⟨w.heap.size + 1, 1, none⟩) (by show w.heap.size ≤ w.heap.size + 1; omega) (.int .i64 x1)).setCell (p := ⟨w.heap.size + 1, 2, none⟩) (by show w.heap.size ≤ w.heap.size + 1; omega) (.int .i64 x0))
          clear hV' y0 y1 y2 y3 y4 u0 u1 u2 u3
          go_wp2
          go_loopw [7] (fun i wr => ∃ (k : Nat), (k ≤ n ∧ i = .int .i64 k) ∧ Hid (Bk wr (w.heap.size + 1) 35 #[.int .i64 op, .int .i64 x1, .int .i64 x0, .int .i64 0, .int .u64 (numGoL (l.take k) 0)]) ∧ Hid (Bk wr w.heap.size 35 #[.int .i64 0, .int .i64 0, .int .i64 0, .int .i64 0, .int .u64 0]) ∧ Hid (Below w.heap.size w wr)) (fun i _ => n - (intOf i).toNat)
          case atStart => exact ⟨0, ⟨by omega, rfl⟩, HI.out, HZ.out, HBv.out⟩
          case round =>
            obtain ⟨k, ⟨hk, rfl⟩, HI', HZ', HB'⟩ := hrel
            by_cases hlt : k < n
            · have hlti : (k : Int) < (n : Int) := by omega
              obtain ⟨b, o, ⟨kd, tx, nu, ta, tl⟩, rfl, hbB, ht, c0, c1, c2, c3, c4⟩ := (HR.out.below HB'.out).tokAt hlt
              have HTk : Hid (numGoL (l.take (k + 1)) 0 = if kd = 1 then nu else numGoL (l.take k) 0) := by
                show _ = _
                rw [List.take_add_one, ht]
                exact numGoL_snoc _ _ _
              have hws : w.heap.size + 1 < wr.heap.size := HI'.out.lt
              have y4 := HI'.out.frozen 4
              have y4b : wr.cell? ⟨w.heap.size + 1, 4, none⟩ = some (.int .u64 (numGoL (l.take k) 0)) := HI'.out.cell 4
              clear ht
              by_cases h1 : kd = 1
              · subst h1
                rw [if_pos rfl] at HTk
                go_wp2
                go_roundw
                case rel =>
                  refine ⟨k + 1, ⟨by omega, by go_num⟩, ?_, bkSetOff HZ'.out (p := ⟨w.heap.size + 1, 4, none⟩) (by simp) _, HB'.out.setCell (p := ⟨w.heap.size + 1, 4, none⟩) (by show w.heap.size ≤ w.heap.size + 1; omega) _⟩
                  show Bk _ _ _ _
                  rw [HTk.out]
                  exact HI'.out.set_ 4 _
                case measure => simp [intOf]; omega
              · rw [if_neg h1] at HTk
                have hk1 : (kd == 1) = false := beq_eq_false_iff_ne.2 h1
                go_wp2
                go_roundw
                case rel =>
                  refine ⟨k + 1, ⟨by omega, by go_num⟩, ?_, HZ'.out, HB'.out⟩
                  show Bk _ _ _ _
                  rw [HTk.out]
                  exact HI'.out
                case measure => simp [intOf]; omega
            · obtain rfl : k = n := by omega
              have hT : l.take k = l := List.take_of_length_le (by rw [HLen.out]; exact Nat.le_refl _)
              rw [hT] at HI'
              clear hT
              have q0 : wr.cell? ⟨w.heap.size + 1, 0, none⟩ = some (.int .i64 op) := HI'.out.cell 0
              have q1 : wr.cell? ⟨w.heap.size + 1, 1, none⟩ = some (.int .i64 x1) := HI'.out.cell 1
              have q2 : wr.cell? ⟨w.heap.size + 1, 2, none⟩ = some (.int .i64 x0) := HI'.out.cell 2
              have q3 : wr.cell? ⟨w.heap.size + 1, 3, none⟩ = some (.int .i64 0) := HI'.out.cell 3
              have q4 : wr.cell? ⟨w.heap.size + 1, 4, none⟩ = some (.int .u64 (numGoL l 0)) := HI'.out.cell 4
              have z0 : wr.cell? ⟨w.heap.size, 0, none⟩ = some (.int .i64 0) := HZ'.out.cell 0
              have s0 := HZ'.out.frozen 0
              have z1 : wr.cell? ⟨w.heap.size, 1, none⟩ = some (.int .i64 0) := HZ'.out.cell 1
              have s1 := HZ'.out.frozen 1
              have z2 : wr.cell? ⟨w.heap.size, 2, none⟩ = some (.int .i64 0) := HZ'.out.cell 2
              have s2 := HZ'.out.frozen 2
              have z3 : wr.cell? ⟨w.heap.size, 3, none⟩ = some (.int .i64 0) := HZ'.out.cell 3
              have s3 := HZ'.out.frozen 3
              have z4 : wr.cell? ⟨w.heap.size, 4, none⟩ = some (.int .u64 0) := HZ'.out.cell 4
              have s4 := HZ'.out.frozen 4
              go_wp2
              (try simp only [Exit.inBlock, Exit.then])
              refine bodyPost_ret (v := .agg #[.int .i64 op, .int .i64 x1, .int .i64 x0, .int .i64 0, .int .u64 (numGoL l 0)]) ?_ rfl ⟨?_, ?_⟩
              · have hbk := a_five HZ'.out (.int .i64 op) (.int .i64 x1) (.int .i64 x0) (.int .i64 0) (.int .u64 (numGoL l 0))
                exact res_inst rfl _ _ w.heap.size _ rfl rfl hbk
              · rw [HFin.out]
              · exact a_below_five HB'.out (Nat.le_refl _) _ _ _ _ _
    · have hm := hrot.2 h14
      clear hrot
      obtain ⟨x0, x1, x2, rfl⟩ : ∃ x0 x1 x2, r = [x0, x1, x2] := by match r, hm with | [x0, x1, x2], _ => exact ⟨_, _, _, rfl⟩
      have hro : op = 10 ∨ op = 13 ∨ op = 14 := by omega
      have e10 : (op == 10) = false := beq_eq_false_iff_ne.2 (by omega)
      have e13 : (op == 13) = false := beq_eq_false_iff_ne.2 (by omega)
      have e14 : (op == 14) = true := by simp [h14]
      have HFin : Hid ((lineL op l).cells.toArray = #[.int .i64 op, .int .i64 x2, .int .i64 x0, .int .i64 x1, .int .u64 (numGoL l 0)]) := by
        show _ = _
        unfold lineL
        rw [HRr.out]
        unfold rotL
        rw [if_pos hro]; rfl
      obtain ⟨g, o, rfl, hgB, hcs⟩ := HRd.out.at_ (show 0 < _ by simp)
      have hgb := (HOw.out.lt g rfl).1
      have v0 : w1.cell? ⟨g, o + 0, none⟩ = some (.int .i64 x0) := hcs 0 _ rfl
      have v1 : w1.cell? ⟨g, o + 1, none⟩ = some (.int .i64 x1) := hcs 1 _ rfl
      have v2 : w1.cell? ⟨g, o + 2, none⟩ = some (.int .i64 x2) := hcs 2 _ rfl
      simp only [Nat.add_zero] at v0
      simp only [List.length_cons, List.length_nil, Nat.zero_add, Nat.reduceAdd] at hrc HOw HRd ⊢
      have hrci : (2 : Int) ≤ (co : Int) := by omega
      have hrcj : ¬ (co : Int) < 2 := by omega
      have hwr : IntKind.i64.wrap 2 = 2 := by decide
      have vD : w1.drew.cell? ⟨g, o + 2, none⟩ = some (.int .i64 x2) := v2
      clear hro h14
      all_goals
        go_upto_region 4 with fail
        obtain ⟨Wa, hWa⟩ : ∃ Wa, (w1.alloc (.cells #[.int .i64 x2] 3)).drew = Wa := ⟨_, rfl⟩
        have OA : Hid (Wa.ownsRow w1.heap.size 3 1 (.slice (some ⟨w1.heap.size, 0, none⟩) 1 1) 1 (intCells [x2])) := by show World.ownsRow _ _ _ _ _ _ _; rw [← hWa]; have h0 : (w1.alloc (.cells #[.int .i64 x2] 3)).ownsRow w1.heap.size 3 1 (.slice (some ⟨w1.heap.size, 0, none⟩) 1 1) 1 [.int .i64 x2] := own_one w1 _ _; exact h0.drew
        have RA : Hid (Rd Wa w1.heap.size 1 (some ⟨g, o, none⟩) 2 (intCells [x0, x1])) := by
          show Rd _ _ _ _ _ _
          rw [← hWa]
          refine (Rd.alloc (w := w1) ⟨rfl, by simp [maxLen], fun _ => ⟨g, o, rfl, hgB, fun j u hu => ?_⟩⟩ (Nat.le_refl _) _).drew
          have hj : j < 2 := by have := (List.getElem?_eq_some_iff.1 hu).1; simpa [intCells] using this
          obtain rfl | rfl : j = 0 ∨ j = 1 := by omega
          · injection hu with hu; subst hu; exact v0
          · injection hu with hu; subst hu; exact v1
        have KI := Lib.hid (HI1.out.alloc (.cells #[.int .i64 x2] 3)).drew
        have KZ := Lib.hid (HZ1.out.alloc (.cells #[.int .i64 x2] 3)).drew
        have BA := Lib.hid (HB1.out.alloc HB1.out.size (.cells #[.int .i64 x2] 3)).drew
        have zA : Hid (w1.heap.size ≤ Wa.heap.size) := by show _ ≤ _; rw [← hWa]; simp
        rw [hWa] at KI KZ BA
        have HWa := Lib.hid hWa
        clear hWa
        go_region_law (
          rw [HWa.out]
          refine step_app _ (by rfl) (.tmp 28) (.tmp 33) 88 (by rfl) w1.heap.size 3 i0 _ 1 8 Tryd.underlying88 hi0 hz0 hz1 hz2 rfl (by decide) _ 1 _ (by rfl) OA.out w1.heap.size (some ⟨g, o, none⟩) 2 co _ (by rfl) RA.out (intCells_one _) (by simp [maxLen]) (by decide) zA.out ?_
          intro v5 w5 hown5 hg5 _
          obtain ⟨A5, c5, hv5, _, hr5⟩ := Rd.of_own_cap hown5
          subst hv5
          have HO5 := Lib.hid hown5
          have HR5 := Lib.hid hr5
          have L1 := Lib.hid (KI.out.grown hg5 (fun e => by have := (OA.out.lt _ e).1; omega))
          have L0 := Lib.hid (KZ.out.grown hg5 (fun e => by have := (OA.out.lt _ e).1; omega))
          have LB := Lib.hid (below_own BA.out OA.out hg5 (by omega) BA.out.size)
          clear hown5 hg5 hr5)
        all_goals
          obtain ⟨g5, o5, rfl, hgB5, hcs5⟩ := HR5.out.at_ (by decide)
          have hgb5 := (HO5.out.lt g5 rfl).1
          have hne : ¬ g5 = w.heap.size + 1 := by omega
          have hne2 : ¬ w.heap.size + 1 = g5 := by omega
          have p0 : w5.cell? ⟨g5, o5 + 0, none⟩ = some (.int .i64 x2) := hcs5 0 _ rfl
          have p1 : w5.cell? ⟨g5, o5 + 1, none⟩ = some (.int .i64 x0) := hcs5 1 _ rfl
          have p2 : w5.cell? ⟨g5, o5 + 2, none⟩ = some (.int .i64 x1) := hcs5 2 _ rfl
          simp only [Nat.add_zero] at p0
          clear v0 v1 v2
          have y0 := L1.out.frozen 0
          have y1 := L1.out.frozen 1
          have y2 := L1.out.frozen 2
          have y3 := L1.out.frozen 3
          have y4 := L1.out.frozen 4
          have u0 : w5.cell? ⟨w.heap.size + 1, 0, none⟩ = some (.int .i64 op) := L1.out.cell 0
          have u1 : w5.cell? ⟨w.heap.size + 1, 1, none⟩ = some (.int .i64 0) := L1.out.cell 1
          have u2 : w5.cell? ⟨w.heap.size + 1, 2, none⟩ = some (.int .i64 0) := L1.out.cell 2
          have u3 : w5.cell? ⟨w.heap.size + 1, 3, none⟩ = some (.int .i64 0) := L1.out.cell 3
          go_upto_region 11 with fail
          obtain ⟨V', hV'⟩ : ∃ V', (((w5.setCell ⟨w.heap.size + 1, 1, none⟩ (.int .i64 x2)).setCell ⟨w.heap.size + 1, 2, none⟩ (.int .i64 x0)).setCell ⟨w.heap.size + 1, 3, none⟩ (.int .i64 x1)) = V' := ⟨_, rfl⟩
          (try rw [hV'])
          have HI : Hid (Bk V' (w.heap.size + 1) 35 #[.int .i64 op, .int .i64 x2, .int .i64 x0, .int .i64 x1, .int .u64 (numGoL (l.take 0) 0)]) := by show Bk _ _ _ _; rw [← hV']; exact (((L1.out.set_ 1 (.int .i64 x2)).set_ 2 (.int .i64 x0)).set_ 3 (.int .i64 x1))
          have HZ : Hid (Bk V' w.heap.size 35 #[.int .i64 0, .int .i64 0, .int .i64 0, .int .i64 0, .int .u64 0]) := by show Bk _ _ _ _; rw [← hV']; exact (bkSetOff (bkSetOff (bkSetOff L0.out (p := ⟨w.heap.size + 1, 1, none⟩) (by simp) (.int .i64 x2)) (p := ⟨w.heap.size + 1, 2, none⟩) (by simp) (.int .i64 x0)) (p := ⟨w.heap.size + 1, 3, none⟩) (by simp) (.int .i64 x1))
          have HBv : Hid (Below w.heap.size w V') := by show Below _ _ _; rw [← hV']; exact (((LB.out.setCell (p := ⟨w.heap.size + 1, 1, none⟩) (by show w.heap.size ≤ w.heap.size + 1; omega) (.int .i64 x2)).setCell (p := ⟨w.heap.size + 1, 2, none⟩) (by show w.heap.size ≤ w.heap.size + 1; omega) (.int .i64 x0)).setCell (p := ⟨w.heap.size + 1, 3, none⟩) (by show w.heap.size ≤ w.heap.size + 1; omega) (.int .i64 x1))
          clear hV' y0 y1 y2 y3 y4 u0 u1 u2 u3
          go_wp2
          go_loopw [7] (fun i wr => ∃ (k : Nat), (k ≤ n ∧ i = .int .i64 k) ∧ Hid (Bk wr (w.heap.size + 1) 35 #[.int .i64 op, .int .i64 x2, .int .i64 x0, .int .i64 x1, .int .u64 (numGoL (l.take k) 0)]) ∧ Hid (Bk wr w.heap.size 35 #[.int .i64 0, .int .i64 0, .int .i64 0, .int .i64 0, .int .u64 0]) ∧ Hid (Below w.heap.size w wr)) (fun i _ => n - (intOf i).toNat)
          case atStart => exact ⟨0, ⟨by omega, rfl⟩, HI.out, HZ.out, HBv.out⟩
          case round =>
            obtain ⟨k, ⟨hk, rfl⟩, HI', HZ', HB'⟩ := hrel
            by_cases hlt : k < n
            · have hlti : (k : Int) < (n : Int) := by omega
              obtain ⟨b, o, ⟨kd, tx, nu, ta, tl⟩, rfl, hbB, ht, c0, c1, c2, c3, c4⟩ := (HR.out.below HB'.out).tokAt hlt
              have HTk : Hid (numGoL (l.take (k + 1)) 0 = if kd = 1 then nu else numGoL (l.take k) 0) := by
                show _ = _
                rw [List.take_add_one, ht]
                exact numGoL_snoc _ _ _
              have hws : w.heap.size + 1 < wr.heap.size := HI'.out.lt
              have y4 := HI'.out.frozen 4
              have y4b : wr.cell? ⟨w.heap.size + 1, 4, none⟩ = some (.int .u64 (numGoL (l.take k) 0)) := HI'.out.cell 4
              clear ht
              by_cases h1 : kd = 1
              · subst h1
                rw [if_pos rfl] at HTk
                go_wp2
                go_roundw
                case rel =>
                  refine ⟨k + 1, ⟨by omega, by go_num⟩, ?_, bkSetOff HZ'.out (p := ⟨w.heap.size + 1, 4, none⟩) (by simp) _, HB'.out.setCell (p := ⟨w.heap.size + 1, 4, none⟩) (by show w.heap.size ≤ w.heap.size + 1; omega) _⟩
                  show Bk _ _ _ _
                  rw [HTk.out]
                  exact HI'.out.set_ 4 _
                case measure => simp [intOf]; omega
              · rw [if_neg h1] at HTk
                have hk1 : (kd == 1) = false := beq_eq_false_iff_ne.2 h1
                go_wp2
                go_roundw
                case rel =>
                  refine ⟨k + 1, ⟨by omega, by go_num⟩, ?_, HZ'.out, HB'.out⟩
                  show Bk _ _ _ _
                  rw [HTk.out]
                  exact HI'.out
                case measure => simp [intOf]; omega
            · obtain rfl : k = n := by omega
              have hT : l.take k = l := List.take_of_length_le (by rw [HLen.out]; exact Nat.le_refl _)
              rw [hT] at HI'
              clear hT
              have q0 : wr.cell? ⟨w.heap.size + 1, 0, none⟩ = some (.int .i64 op) := HI'.out.cell 0
              have q1 : wr.cell? ⟨w.heap.size + 1, 1, none⟩ = some (.int .i64 x2) := HI'.out.cell 1
              have q2 : wr.cell? ⟨w.heap.size + 1, 2, none⟩ = some (.int .i64 x0) := HI'.out.cell 2
              have q3 : wr.cell? ⟨w.heap.size + 1, 3, none⟩ = some (.int .i64 x1) := HI'.out.cell 3
              have q4 : wr.cell? ⟨w.heap.size + 1, 4, none⟩ = some (.int .u64 (numGoL l 0)) := HI'.out.cell 4
              have z0 : wr.cell? ⟨w.heap.size, 0, none⟩ = some (.int .i64 0) := HZ'.out.cell 0
              have s0 := HZ'.out.frozen 0
              have z1 : wr.cell? ⟨w.heap.size, 1, none⟩ = some (.int .i64 0) := HZ'.out.cell 1
              have s1 := HZ'.out.frozen 1
              have z2 : wr.cell? ⟨w.heap.size, 2, none⟩ = some (.int .i64 0) := HZ'.out.cell 2
              have s2 := HZ'.out.frozen 2
              have z3 : wr.cell? ⟨w.heap.size, 3, none⟩ = some (.int .i64 0) := HZ'.out.cell 3
              have s3 := HZ'.out.frozen 3
              have z4 : wr.cell? ⟨w.heap.size, 4, none⟩ = some (.int .u64 0) := HZ'.out.cell 4
              have s4 := HZ'.out.frozen 4
              go_wp2
              (try simp only [Exit.inBlock, Exit.then])
              refine bodyPost_ret (v := .agg #[.int .i64 op, .int .i64 x2, .int .i64 x0, .int .i64 x1, .int .u64 (numGoL l 0)]) ?_ rfl ⟨?_, ?_⟩
              · have hbk := a_five HZ'.out (.int .i64 op) (.int .i64 x2) (.int .i64 x0) (.int .i64 x1) (.int .u64 (numGoL l 0))
                exact res_inst rfl _ _ w.heap.size _ rfl rfl hbk
              · rw [HFin.out]
              · exact a_below_five HB'.out (Nat.le_refl _) _ _ _ _ _
  · clear hrot
    have e10 : (op == 10) = false := beq_eq_false_iff_ne.2 (fun e => hro (by omega))
    have e13 : (op == 13) = false := beq_eq_false_iff_ne.2 (fun e => hro (by omega))
    have e14 : (op == 14) = false := beq_eq_false_iff_ne.2 (fun e => hro (by omega))
    have hrotL : rotL op r = r := by unfold rotL; rw [if_neg hro]
    obtain hm | hm | hm | hm : r.length = 0 ∨ r.length = 1 ∨ r.length = 2 ∨ r.length = 3 := by omega
    · obtain rfl : r = [] := List.eq_nil_of_length_eq_zero hm
      have HFin : Hid ((lineL op l).cells.toArray = #[.int .i64 op, .int .i64 0, .int .i64 0, .int .i64 0, .int .u64 (numGoL l 0)]) := by
        show _ = _
        unfold lineL
        rw [HRr.out, hrotL]; rfl
      simp only [List.length_nil]
      clear hrotL
      have y0 := HI1.out.frozen 0
      have y1 := HI1.out.frozen 1
      have y2 := HI1.out.frozen 2
      have y3 := HI1.out.frozen 3
      have y4 := HI1.out.frozen 4
      have u0 : w1.cell? ⟨w.heap.size + 1, 0, none⟩ = some (.int .i64 op) := HI1.out.cell 0
      have u1 : w1.cell? ⟨w.heap.size + 1, 1, none⟩ = some (.int .i64 0) := HI1.out.cell 1
      have u2 : w1.cell? ⟨w.heap.size + 1, 2, none⟩ = some (.int .i64 0) := HI1.out.cell 2
      have u3 : w1.cell? ⟨w.heap.size + 1, 3, none⟩ = some (.int .i64 0) := HI1.out.cell 3
      go_upto_region 11 with fail
      obtain ⟨V', hV'⟩ : ∃ V', w1 = V' := ⟨_, rfl⟩
      (try rw [hV'])
      have HI : Hid (Bk V' (w.heap.size + 1) 35 #[.int .i64 op, .int .i64 0, .int .i64 0, .int .i64 0, .int .u64 (numGoL (l.take 0) 0)]) := by show Bk _ _ _ _; rw [← hV']; exact HI1.out
      have HZ : Hid (Bk V' w.heap.size 35 #[.int .i64 0, .int .i64 0, .int .i64 0, .int .i64 0, .int .u64 0]) := by show Bk _ _ _ _; rw [← hV']; exact HZ1.out
      have HBv : Hid (Below w.heap.size w V') := by show Below _ _ _; rw [← hV']; exact HB1.out
      clear hV' y0 y1 y2 y3 y4 u0 u1 u2 u3
      go_wp2
      go_loopw [7] (fun i wr => ∃ (k : Nat), (k ≤ n ∧ i = .int .i64 k) ∧ Hid (Bk wr (w.heap.size + 1) 35 #[.int .i64 op, .int .i64 0, .int .i64 0, .int .i64 0, .int .u64 (numGoL (l.take k) 0)]) ∧ Hid (Bk wr w.heap.size 35 #[.int .i64 0, .int .i64 0, .int .i64 0, .int .i64 0, .int .u64 0]) ∧ Hid (Below w.heap.size w wr)) (fun i _ => n - (intOf i).toNat)
      case atStart => exact ⟨0, ⟨by omega, rfl⟩, HI.out, HZ.out, HBv.out⟩
      case round =>
        obtain ⟨k, ⟨hk, rfl⟩, HI', HZ', HB'⟩ := hrel
        by_cases hlt : k < n
        · have hlti : (k : Int) < (n : Int) := by omega
          obtain ⟨b, o, ⟨kd, tx, nu, ta, tl⟩, rfl, hbB, ht, c0, c1, c2, c3, c4⟩ := (HR.out.below HB'.out).tokAt hlt
          have HTk : Hid (numGoL (l.take (k + 1)) 0 = if kd = 1 then nu else numGoL (l.take k) 0) := by
            show _ = _
            rw [List.take_add_one, ht]
            exact numGoL_snoc _ _ _
          have hws : w.heap.size + 1 < wr.heap.size := HI'.out.lt
          have y4 := HI'.out.frozen 4
          have y4b : wr.cell? ⟨w.heap.size + 1, 4, none⟩ = some (.int .u64 (numGoL (l.take k) 0)) := HI'.out.cell 4
          clear ht
          by_cases h1 : kd = 1
          · subst h1
            rw [if_pos rfl] at HTk
            go_wp2
            go_roundw
            case rel =>
              refine ⟨k + 1, ⟨by omega, by go_num⟩, ?_, bkSetOff HZ'.out (p := ⟨w.heap.size + 1, 4, none⟩) (by simp) _, HB'.out.setCell (p := ⟨w.heap.size + 1, 4, none⟩) (by show w.heap.size ≤ w.heap.size + 1; omega) _⟩
              show Bk _ _ _ _
              rw [HTk.out]
              exact HI'.out.set_ 4 _
            case measure => simp [intOf]; omega
          · rw [if_neg h1] at HTk
            have hk1 : (kd == 1) = false := beq_eq_false_iff_ne.2 h1
            go_wp2
            go_roundw
            case rel =>
              refine ⟨k + 1, ⟨by omega, by go_num⟩, ?_, HZ'.out, HB'.out⟩
              show Bk _ _ _ _
              rw [HTk.out]
              exact HI'.out
            case measure => simp [intOf]; omega
        · obtain rfl : k = n := by omega
          have hT : l.take k = l := List.take_of_length_le (by rw [HLen.out]; exact Nat.le_refl _)
          rw [hT] at HI'
          clear hT
          have q0 : wr.cell? ⟨w.heap.size + 1, 0, none⟩ = some (.int .i64 op) := HI'.out.cell 0
          have q1 : wr.cell? ⟨w.heap.size + 1, 1, none⟩ = some (.int .i64 0) := HI'.out.cell 1
          have q2 : wr.cell? ⟨w.heap.size + 1, 2, none⟩ = some (.int .i64 0) := HI'.out.cell 2
          have q3 : wr.cell? ⟨w.heap.size + 1, 3, none⟩ = some (.int .i64 0) := HI'.out.cell 3
          have q4 : wr.cell? ⟨w.heap.size + 1, 4, none⟩ = some (.int .u64 (numGoL l 0)) := HI'.out.cell 4
          have z0 : wr.cell? ⟨w.heap.size, 0, none⟩ = some (.int .i64 0) := HZ'.out.cell 0
          have s0 := HZ'.out.frozen 0
          have z1 : wr.cell? ⟨w.heap.size, 1, none⟩ = some (.int .i64 0) := HZ'.out.cell 1
          have s1 := HZ'.out.frozen 1
          have z2 : wr.cell? ⟨w.heap.size, 2, none⟩ = some (.int .i64 0) := HZ'.out.cell 2
          have s2 := HZ'.out.frozen 2
          have z3 : wr.cell? ⟨w.heap.size, 3, none⟩ = some (.int .i64 0) := HZ'.out.cell 3
          have s3 := HZ'.out.frozen 3
          have z4 : wr.cell? ⟨w.heap.size, 4, none⟩ = some (.int .u64 0) := HZ'.out.cell 4
          have s4 := HZ'.out.frozen 4
          go_wp2
          (try simp only [Exit.inBlock, Exit.then])
          refine bodyPost_ret (v := .agg #[.int .i64 op, .int .i64 0, .int .i64 0, .int .i64 0, .int .u64 (numGoL l 0)]) ?_ rfl ⟨?_, ?_⟩
          · have hbk := a_five HZ'.out (.int .i64 op) (.int .i64 0) (.int .i64 0) (.int .i64 0) (.int .u64 (numGoL l 0))
            exact res_inst rfl _ _ w.heap.size _ rfl rfl hbk
          · rw [HFin.out]
          · exact a_below_five HB'.out (Nat.le_refl _) _ _ _ _ _
    · obtain ⟨x0, rfl⟩ : ∃ x0, r = [x0] := by match r, hm with | [x0], _ => exact ⟨_, rfl⟩
      have HFin : Hid ((lineL op l).cells.toArray = #[.int .i64 op, .int .i64 x0, .int .i64 0, .int .i64 0, .int .u64 (numGoL l 0)]) := by
        show _ = _
        unfold lineL
        rw [HRr.out, hrotL]; rfl
      obtain ⟨g, o, rfl, hgB, hcs⟩ := HRd.out.at_ (show 0 < _ by simp)
      have hgb := (HOw.out.lt g rfl).1
      have hne : ¬ g = w.heap.size + 1 := by omega
      have hne2 : ¬ w.heap.size + 1 = g := by omega
      have v0 : w1.cell? ⟨g, o + 0, none⟩ = some (.int .i64 x0) := hcs 0 _ rfl
      simp only [Nat.add_zero] at v0
      simp only [List.length_cons, List.length_nil, Nat.zero_add]
      clear hrotL
      have y0 := HI1.out.frozen 0
      have y1 := HI1.out.frozen 1
      have y2 := HI1.out.frozen 2
      have y3 := HI1.out.frozen 3
      have y4 := HI1.out.frozen 4
      have u0 : w1.cell? ⟨w.heap.size + 1, 0, none⟩ = some (.int .i64 op) := HI1.out.cell 0
      have u1 : w1.cell? ⟨w.heap.size + 1, 1, none⟩ = some (.int .i64 0) := HI1.out.cell 1
      have u2 : w1.cell? ⟨w.heap.size + 1, 2, none⟩ = some (.int .i64 0) := HI1.out.cell 2
      have u3 : w1.cell? ⟨w.heap.size + 1, 3, none⟩ = some (.int .i64 0) := HI1.out.cell 3
      go_upto_region 11 with fail
      obtain ⟨V', hV'⟩ : ∃ V', (w1.setCell ⟨w.heap.size + 1, 1, none⟩ (.int .i64 x0)) = V' := ⟨_, rfl⟩
      (try rw [hV'])
      have HI : Hid (Bk V' (w.heap.size + 1) 35 #[.int .i64 op, .int .i64 x0, .int .i64 0, .int .i64 0, .int .u64 (numGoL (l.take 0) 0)]) := by show Bk _ _ _ _; rw [← hV']; exact (HI1.out.set_ 1 (.int .i64 x0))
      have HZ : Hid (Bk V' w.heap.size 35 #[.int .i64 0, .int .i64 0, .int .i64 0, .int .i64 0, .int .u64 0]) := by show Bk _ _ _ _; rw [← hV']; exact (bkSetOff HZ1.out (p := ⟨w.heap.size + 1, 1, none⟩) (by simp) (.int .i64 x0))
      have HBv : Hid (Below w.heap.size w V') := by show Below _ _ _; rw [← hV']; exact (HB1.out.setCell (p := ⟨w.heap.size + 1, 1, none⟩) (by show w.heap.size ≤ w.heap.size + 1; omega) (.int .i64 x0))
      clear hV' y0 y1 y2 y3 y4 u0 u1 u2 u3
      go_wp2
      go_loopw [7] (fun i wr => ∃ (k : Nat), (k ≤ n ∧ i = .int .i64 k) ∧ Hid (Bk wr (w.heap.size + 1) 35 #[.int .i64 op, .int .i64 x0, .int .i64 0, .int .i64 0, .int .u64 (numGoL (l.take k) 0)]) ∧ Hid (Bk wr w.heap.size 35 #[.int .i64 0, .int .i64 0, .int .i64 0, .int .i64 0, .int .u64 0]) ∧ Hid (Below w.heap.size w wr)) (fun i _ => n - (intOf i).toNat)
      case atStart => exact ⟨0, ⟨by omega, rfl⟩, HI.out, HZ.out, HBv.out⟩
      case round =>
        obtain ⟨k, ⟨hk, rfl⟩, HI', HZ', HB'⟩ := hrel
        by_cases hlt : k < n
        · have hlti : (k : Int) < (n : Int) := by omega
          obtain ⟨b, o, ⟨kd, tx, nu, ta, tl⟩, rfl, hbB, ht, c0, c1, c2, c3, c4⟩ := (HR.out.below HB'.out).tokAt hlt
          have HTk : Hid (numGoL (l.take (k + 1)) 0 = if kd = 1 then nu else numGoL (l.take k) 0) := by
            show _ = _
            rw [List.take_add_one, ht]
            exact numGoL_snoc _ _ _
          have hws : w.heap.size + 1 < wr.heap.size := HI'.out.lt
          have y4 := HI'.out.frozen 4
          have y4b : wr.cell? ⟨w.heap.size + 1, 4, none⟩ = some (.int .u64 (numGoL (l.take k) 0)) := HI'.out.cell 4
          clear ht
          by_cases h1 : kd = 1
          · subst h1
            rw [if_pos rfl] at HTk
            go_wp2
            go_roundw
            case rel =>
              refine ⟨k + 1, ⟨by omega, by go_num⟩, ?_, bkSetOff HZ'.out (p := ⟨w.heap.size + 1, 4, none⟩) (by simp) _, HB'.out.setCell (p := ⟨w.heap.size + 1, 4, none⟩) (by show w.heap.size ≤ w.heap.size + 1; omega) _⟩
              show Bk _ _ _ _
              rw [HTk.out]
              exact HI'.out.set_ 4 _
            case measure => simp [intOf]; omega
          · rw [if_neg h1] at HTk
            have hk1 : (kd == 1) = false := beq_eq_false_iff_ne.2 h1
            go_wp2
            go_roundw
            case rel =>
              refine ⟨k + 1, ⟨by omega, by go_num⟩, ?_, HZ'.out, HB'.out⟩
              show Bk _ _ _ _
              rw [HTk.out]
              exact HI'.out
            case measure => simp [intOf]; omega
        · obtain rfl : k = n := by omega
          have hT : l.take k = l := List.take_of_length_le (by rw [HLen.out]; exact Nat.le_refl _)
          rw [hT] at HI'
          clear hT
          have q0 : wr.cell? ⟨w.heap.size + 1, 0, none⟩ = some (.int .i64 op) := HI'.out.cell 0
          have q1 : wr.cell? ⟨w.heap.size + 1, 1, none⟩ = some (.int .i64 x0) := HI'.out.cell 1
          have q2 : wr.cell? ⟨w.heap.size + 1, 2, none⟩ = some (.int .i64 0) := HI'.out.cell 2
          have q3 : wr.cell? ⟨w.heap.size + 1, 3, none⟩ = some (.int .i64 0) := HI'.out.cell 3
          have q4 : wr.cell? ⟨w.heap.size + 1, 4, none⟩ = some (.int .u64 (numGoL l 0)) := HI'.out.cell 4
          have z0 : wr.cell? ⟨w.heap.size, 0, none⟩ = some (.int .i64 0) := HZ'.out.cell 0
          have s0 := HZ'.out.frozen 0
          have z1 : wr.cell? ⟨w.heap.size, 1, none⟩ = some (.int .i64 0) := HZ'.out.cell 1
          have s1 := HZ'.out.frozen 1
          have z2 : wr.cell? ⟨w.heap.size, 2, none⟩ = some (.int .i64 0) := HZ'.out.cell 2
          have s2 := HZ'.out.frozen 2
          have z3 : wr.cell? ⟨w.heap.size, 3, none⟩ = some (.int .i64 0) := HZ'.out.cell 3
          have s3 := HZ'.out.frozen 3
          have z4 : wr.cell? ⟨w.heap.size, 4, none⟩ = some (.int .u64 0) := HZ'.out.cell 4
          have s4 := HZ'.out.frozen 4
          go_wp2
          (try simp only [Exit.inBlock, Exit.then])
          refine bodyPost_ret (v := .agg #[.int .i64 op, .int .i64 x0, .int .i64 0, .int .i64 0, .int .u64 (numGoL l 0)]) ?_ rfl ⟨?_, ?_⟩
          · have hbk := a_five HZ'.out (.int .i64 op) (.int .i64 x0) (.int .i64 0) (.int .i64 0) (.int .u64 (numGoL l 0))
            exact res_inst rfl _ _ w.heap.size _ rfl rfl hbk
          · rw [HFin.out]
          · exact a_below_five HB'.out (Nat.le_refl _) _ _ _ _ _
    · obtain ⟨x0, x1, rfl⟩ : ∃ x0 x1, r = [x0, x1] := by match r, hm with | [x0, x1], _ => exact ⟨_, _, rfl⟩
      have HFin : Hid ((lineL op l).cells.toArray = #[.int .i64 op, .int .i64 x0, .int .i64 x1, .int .i64 0, .int .u64 (numGoL l 0)]) := by
        show _ = _
        unfold lineL
        rw [HRr.out, hrotL]; rfl
      obtain ⟨g, o, rfl, hgB, hcs⟩ := HRd.out.at_ (show 0 < _ by simp)
      have hgb := (HOw.out.lt g rfl).1
      have hne : ¬ g = w.heap.size + 1 := by omega
      have hne2 : ¬ w.heap.size + 1 = g := by omega
      have v0 : w1.cell? ⟨g, o + 0, none⟩ = some (.int .i64 x0) := hcs 0 _ rfl
      have v1 : w1.cell? ⟨g, o + 1, none⟩ = some (.int .i64 x1) := hcs 1 _ rfl
      simp only [Nat.add_zero] at v0
      simp only [List.length_cons, List.length_nil, Nat.zero_add, Nat.reduceAdd]
      clear hrotL
      have y0 := HI1.out.frozen 0
      have y1 := HI1.out.frozen 1
      have y2 := HI1.out.frozen 2
      have y3 := HI1.out.frozen 3
      have y4 := HI1.out.frozen 4
      have u0 : w1.cell? ⟨w.heap.size + 1, 0, none⟩ = some (.int .i64 op) := HI1.out.cell 0
      have u1 : w1.cell? ⟨w.heap.size + 1, 1, none⟩ = some (.int .i64 0) := HI1.out.cell 1
      have u2 : w1.cell? ⟨w.heap.size + 1, 2, none⟩ = some (.int .i64 0) := HI1.out.cell 2
      have u3 : w1.cell? ⟨w.heap.size + 1, 3, none⟩ = some (.int .i64 0) := HI1.out.cell 3
      go_upto_region 11 with fail
      obtain ⟨V', hV'⟩ : ∃ V', ((w1.setCell ⟨w.heap.size + 1, 1, none⟩ (.int .i64 x0)).setCell ⟨w.heap.size + 1, 2, none⟩ (.int .i64 x1)) = V' := ⟨_, rfl⟩
      (try rw [hV'])
      have HI : Hid (Bk V' (w.heap.size + 1) 35 #[.int .i64 op, .int .i64 x0, .int .i64 x1, .int .i64 0, .int .u64 (numGoL (l.take 0) 0)]) := by show Bk _ _ _ _; rw [← hV']; exact ((HI1.out.set_ 1 (.int .i64 x0)).set_ 2 (.int .i64 x1))
      have HZ : Hid (Bk V' w.heap.size 35 #[.int .i64 0, .int .i64 0, .int .i64 0, .int .i64 0, .int .u64 0]) := by show Bk _ _ _ _; rw [← hV']; exact (bkSetOff (bkSetOff HZ1.out (p := ⟨w.heap.size + 1, 1, none⟩) (by simp) (.int .i64 x0)) (p := ⟨w.heap.size + 1, 2, none⟩) (by simp) (.int .i64 x1))
      have HBv : Hid (Below w.heap.size w V') := by show Below _ _ _; rw [← hV']; exact ((HB1.out.setCell (p := ⟨w.heap.size + 1, 1, none⟩) (by show w.heap.size ≤ w.heap.size + 1; omega) (.int .i64 x0)).setCell (p := ⟨w.heap.size + 1, 2, none⟩) (by show w.heap.size ≤ w.heap.size + 1; omega) (.int .i64 x1))
      clear hV' y0 y1 y2 y3 y4 u0 u1 u2 u3
      go_wp2
      go_loopw [7] (fun i wr => ∃ (k : Nat), (k ≤ n ∧ i = .int .i64 k) ∧ Hid (Bk wr (w.heap.size + 1) 35 #[.int .i64 op, .int .i64 x0, .int .i64 x1, .int .i64 0, .int .u64 (numGoL (l.take k) 0)]) ∧ Hid (Bk wr w.heap.size 35 #[.int .i64 0, .int .i64 0, .int .i64 0, .int .i64 0, .int .u64 0]) ∧ Hid (Below w.heap.size w wr)) (fun i _ => n - (intOf i).toNat)
      case atStart => exact ⟨0, ⟨by omega, rfl⟩, HI.out, HZ.out, HBv.out⟩
      case round =>
        obtain ⟨k, ⟨hk, rfl⟩, HI', HZ', HB'⟩ := hrel
        by_cases hlt : k < n
        · have hlti : (k : Int) < (n : Int) := by omega
          obtain ⟨b, o, ⟨kd, tx, nu, ta, tl⟩, rfl, hbB, ht, c0, c1, c2, c3, c4⟩ := (HR.out.below HB'.out).tokAt hlt
          have HTk : Hid (numGoL (l.take (k + 1)) 0 = if kd = 1 then nu else numGoL (l.take k) 0) := by
            show _ = _
            rw [List.take_add_one, ht]
            exact numGoL_snoc _ _ _
          have hws : w.heap.size + 1 < wr.heap.size := HI'.out.lt
          have y4 := HI'.out.frozen 4
          have y4b : wr.cell? ⟨w.heap.size + 1, 4, none⟩ = some (.int .u64 (numGoL (l.take k) 0)) := HI'.out.cell 4
          clear ht
          by_cases h1 : kd = 1
          · subst h1
            rw [if_pos rfl] at HTk
            go_wp2
            go_roundw
            case rel =>
              refine ⟨k + 1, ⟨by omega, by go_num⟩, ?_, bkSetOff HZ'.out (p := ⟨w.heap.size + 1, 4, none⟩) (by simp) _, HB'.out.setCell (p := ⟨w.heap.size + 1, 4, none⟩) (by show w.heap.size ≤ w.heap.size + 1; omega) _⟩
              show Bk _ _ _ _
              rw [HTk.out]
              exact HI'.out.set_ 4 _
            case measure => simp [intOf]; omega
          · rw [if_neg h1] at HTk
            have hk1 : (kd == 1) = false := beq_eq_false_iff_ne.2 h1
            go_wp2
            go_roundw
            case rel =>
              refine ⟨k + 1, ⟨by omega, by go_num⟩, ?_, HZ'.out, HB'.out⟩
              show Bk _ _ _ _
              rw [HTk.out]
              exact HI'.out
            case measure => simp [intOf]; omega
        · obtain rfl : k = n := by omega
          have hT : l.take k = l := List.take_of_length_le (by rw [HLen.out]; exact Nat.le_refl _)
          rw [hT] at HI'
          clear hT
          have q0 : wr.cell? ⟨w.heap.size + 1, 0, none⟩ = some (.int .i64 op) := HI'.out.cell 0
          have q1 : wr.cell? ⟨w.heap.size + 1, 1, none⟩ = some (.int .i64 x0) := HI'.out.cell 1
          have q2 : wr.cell? ⟨w.heap.size + 1, 2, none⟩ = some (.int .i64 x1) := HI'.out.cell 2
          have q3 : wr.cell? ⟨w.heap.size + 1, 3, none⟩ = some (.int .i64 0) := HI'.out.cell 3
          have q4 : wr.cell? ⟨w.heap.size + 1, 4, none⟩ = some (.int .u64 (numGoL l 0)) := HI'.out.cell 4
          have z0 : wr.cell? ⟨w.heap.size, 0, none⟩ = some (.int .i64 0) := HZ'.out.cell 0
          have s0 := HZ'.out.frozen 0
          have z1 : wr.cell? ⟨w.heap.size, 1, none⟩ = some (.int .i64 0) := HZ'.out.cell 1
          have s1 := HZ'.out.frozen 1
          have z2 : wr.cell? ⟨w.heap.size, 2, none⟩ = some (.int .i64 0) := HZ'.out.cell 2
          have s2 := HZ'.out.frozen 2
          have z3 : wr.cell? ⟨w.heap.size, 3, none⟩ = some (.int .i64 0) := HZ'.out.cell 3
          have s3 := HZ'.out.frozen 3
          have z4 : wr.cell? ⟨w.heap.size, 4, none⟩ = some (.int .u64 0) := HZ'.out.cell 4
          have s4 := HZ'.out.frozen 4
          go_wp2
          (try simp only [Exit.inBlock, Exit.then])
          refine bodyPost_ret (v := .agg #[.int .i64 op, .int .i64 x0, .int .i64 x1, .int .i64 0, .int .u64 (numGoL l 0)]) ?_ rfl ⟨?_, ?_⟩
          · have hbk := a_five HZ'.out (.int .i64 op) (.int .i64 x0) (.int .i64 x1) (.int .i64 0) (.int .u64 (numGoL l 0))
            exact res_inst rfl _ _ w.heap.size _ rfl rfl hbk
          · rw [HFin.out]
          · exact a_below_five HB'.out (Nat.le_refl _) _ _ _ _ _
    · obtain ⟨x0, x1, x2, rfl⟩ : ∃ x0 x1 x2, r = [x0, x1, x2] := by match r, hm with | [x0, x1, x2], _ => exact ⟨_, _, _, rfl⟩
      have HFin : Hid ((lineL op l).cells.toArray = #[.int .i64 op, .int .i64 x0, .int .i64 x1, .int .i64 x2, .int .u64 (numGoL l 0)]) := by
        show _ = _
        unfold lineL
        rw [HRr.out, hrotL]; rfl
      obtain ⟨g, o, rfl, hgB, hcs⟩ := HRd.out.at_ (show 0 < _ by simp)
      have hgb := (HOw.out.lt g rfl).1
      have hne : ¬ g = w.heap.size + 1 := by omega
      have hne2 : ¬ w.heap.size + 1 = g := by omega
      have v0 : w1.cell? ⟨g, o + 0, none⟩ = some (.int .i64 x0) := hcs 0 _ rfl
      have v1 : w1.cell? ⟨g, o + 1, none⟩ = some (.int .i64 x1) := hcs 1 _ rfl
      have v2 : w1.cell? ⟨g, o + 2, none⟩ = some (.int .i64 x2) := hcs 2 _ rfl
      simp only [Nat.add_zero] at v0
      simp only [List.length_cons, List.length_nil, Nat.zero_add, Nat.reduceAdd]
      clear hrotL
      have y0 := HI1.out.frozen 0
      have y1 := HI1.out.frozen 1
      have y2 := HI1.out.frozen 2
      have y3 := HI1.out.frozen 3
      have y4 := HI1.out.frozen 4
      have u0 : w1.cell? ⟨w.heap.size + 1, 0, none⟩ = some (.int .i64 op) := HI1.out.cell 0
      have u1 : w1.cell? ⟨w.heap.size + 1, 1, none⟩ = some (.int .i64 0) := HI1.out.cell 1
      have u2 : w1.cell? ⟨w.heap.size + 1, 2, none⟩ = some (.int .i64 0) := HI1.out.cell 2
      have u3 : w1.cell? ⟨w.heap.size + 1, 3, none⟩ = some (.int .i64 0) := HI1.out.cell 3
      go_upto_region 11 with fail
      obtain ⟨V', hV'⟩ : ∃ V', (((w1.setCell ⟨w.heap.size + 1, 1, none⟩ (.int .i64 x0)).setCell ⟨w.heap.size + 1, 2, none⟩ (.int .i64 x1)).setCell ⟨w.heap.size + 1, 3, none⟩ (.int .i64 x2)) = V' := ⟨_, rfl⟩
      (try rw [hV'])
      have HI : Hid (Bk V' (w.heap.size + 1) 35 #[.int .i64 op, .int .i64 x0, .int .i64 x1, .int .i64 x2, .int .u64 (numGoL (l.take 0) 0)]) := by show Bk _ _ _ _; rw [← hV']; exact (((HI1.out.set_ 1 (.int .i64 x0)).set_ 2 (.int .i64 x1)).set_ 3 (.int .i64 x2))
      have HZ : Hid (Bk V' w.heap.size 35 #[.int .i64 0, .int .i64 0, .int .i64 0, .int .i64 0, .int .u64 0]) := by show Bk _ _ _ _; rw [← hV']; exact (bkSetOff (bkSetOff (bkSetOff HZ1.out (p := ⟨w.heap.size + 1, 1, none⟩) (by simp) (.int .i64 x0)) (p := ⟨w.heap.size + 1, 2, none⟩) (by simp) (.int .i64 x1)) (p := ⟨w.heap.size + 1, 3, none⟩) (by simp) (.int .i64 x2))
      have HBv : Hid (Below w.heap.size w V') := by show Below _ _ _; rw [← hV']; exact (((HB1.out.setCell (p := ⟨w.heap.size + 1, 1, none⟩) (by show w.heap.size ≤ w.heap.size + 1; omega) (.int .i64 x0)).setCell (p := ⟨w.heap.size + 1, 2, none⟩) (by show w.heap.size ≤ w.heap.size + 1; omega) (.int .i64 x1)).setCell (p := ⟨w.heap.size + 1, 3, none⟩) (by show w.heap.size ≤ w.heap.size + 1; omega) (.int .i64 x2))
      clear hV' y0 y1 y2 y3 y4 u0 u1 u2 u3
      go_wp2
      go_loopw [7] (fun i wr => ∃ (k : Nat), (k ≤ n ∧ i = .int .i64 k) ∧ Hid (Bk wr (w.heap.size + 1) 35 #[.int .i64 op, .int .i64 x0, .int .i64 x1, .int .i64 x2, .int .u64 (numGoL (l.take k) 0)]) ∧ Hid (Bk wr w.heap.size 35 #[.int .i64 0, .int .i64 0, .int .i64 0, .int .i64 0, .int .u64 0]) ∧ Hid (Below w.heap.size w wr)) (fun i _ => n - (intOf i).toNat)
      case atStart => exact ⟨0, ⟨by omega, rfl⟩, HI.out, HZ.out, HBv.out⟩
      case round =>
        obtain ⟨k, ⟨hk, rfl⟩, HI', HZ', HB'⟩ := hrel
        by_cases hlt : k < n
        · have hlti : (k : Int) < (n : Int) := by omega
          obtain ⟨b, o, ⟨kd, tx, nu, ta, tl⟩, rfl, hbB, ht, c0, c1, c2, c3, c4⟩ := (HR.out.below HB'.out).tokAt hlt
          have HTk : Hid (numGoL (l.take (k + 1)) 0 = if kd = 1 then nu else numGoL (l.take k) 0) := by
            show _ = _
            rw [List.take_add_one, ht]
            exact numGoL_snoc _ _ _
          have hws : w.heap.size + 1 < wr.heap.size := HI'.out.lt
          have y4 := HI'.out.frozen 4
          have y4b : wr.cell? ⟨w.heap.size + 1, 4, none⟩ = some (.int .u64 (numGoL (l.take k) 0)) := HI'.out.cell 4
          clear ht
          by_cases h1 : kd = 1
          · subst h1
            rw [if_pos rfl] at HTk
            go_wp2
            go_roundw
            case rel =>
              refine ⟨k + 1, ⟨by omega, by go_num⟩, ?_, bkSetOff HZ'.out (p := ⟨w.heap.size + 1, 4, none⟩) (by simp) _, HB'.out.setCell (p := ⟨w.heap.size + 1, 4, none⟩) (by show w.heap.size ≤ w.heap.size + 1; omega) _⟩
              show Bk _ _ _ _
              rw [HTk.out]
              exact HI'.out.set_ 4 _
            case measure => simp [intOf]; omega
          · rw [if_neg h1] at HTk
            have hk1 : (kd == 1) = false := beq_eq_false_iff_ne.2 h1
            go_wp2
            go_roundw
            case rel =>
              refine ⟨k + 1, ⟨by omega, by go_num⟩, ?_, HZ'.out, HB'.out⟩
              show Bk _ _ _ _
              rw [HTk.out]
              exact HI'.out
            case measure => simp [intOf]; omega
        · obtain rfl : k = n := by omega
          have hT : l.take k = l := List.take_of_length_le (by rw [HLen.out]; exact Nat.le_refl _)
          rw [hT] at HI'
          clear hT
          have q0 : wr.cell? ⟨w.heap.size + 1, 0, none⟩ = some (.int .i64 op) := HI'.out.cell 0
          have q1 : wr.cell? ⟨w.heap.size + 1, 1, none⟩ = some (.int .i64 x0) := HI'.out.cell 1
          have q2 : wr.cell? ⟨w.heap.size + 1, 2, none⟩ = some (.int .i64 x1) := HI'.out.cell 2
          have q3 : wr.cell? ⟨w.heap.size + 1, 3, none⟩ = some (.int .i64 x2) := HI'.out.cell 3
          have q4 : wr.cell? ⟨w.heap.size + 1, 4, none⟩ = some (.int .u64 (numGoL l 0)) := HI'.out.cell 4
          have z0 : wr.cell? ⟨w.heap.size, 0, none⟩ = some (.int .i64 0) := HZ'.out.cell 0
          have s0 := HZ'.out.frozen 0
          have z1 : wr.cell? ⟨w.heap.size, 1, none⟩ = some (.int .i64 0) := HZ'.out.cell 1
          have s1 := HZ'.out.frozen 1
          have z2 : wr.cell? ⟨w.heap.size, 2, none⟩ = some (.int .i64 0) := HZ'.out.cell 2
          have s2 := HZ'.out.frozen 2
          have z3 : wr.cell? ⟨w.heap.size, 3, none⟩ = some (.int .i64 0) := HZ'.out.cell 3
          have s3 := HZ'.out.frozen 3
          have z4 : wr.cell? ⟨w.heap.size, 4, none⟩ = some (.int .u64 0) := HZ'.out.cell 4
          have s4 := HZ'.out.frozen 4
          go_wp2
          (try simp only [Exit.inBlock, Exit.then])
          refine bodyPost_ret (v := .agg #[.int .i64 op, .int .i64 x0, .int .i64 x1, .int .i64 x2, .int .u64 (numGoL l 0)]) ?_ rfl ⟨?_, ?_⟩
          · have hbk := a_five HZ'.out (.int .i64 op) (.int .i64 x0) (.int .i64 x1) (.int .i64 x2) (.int .u64 (numGoL l 0))
            exact res_inst rfl _ _ w.heap.size _ rfl rfl hbk
          · rw [HFin.out]
          · exact a_below_five HB'.out (Nat.le_refl _) _ _ _ _ _
end Go.Proofs.YthdlihiehfkceaaDoor
