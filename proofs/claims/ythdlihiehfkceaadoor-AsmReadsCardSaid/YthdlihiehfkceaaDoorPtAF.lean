/-
  Texts of one proof, joined (wip/gen/pack.py): AsmN, AsmH, SpecA, CtrA, CtrB, CtrC.
-/
import Derived.Test.YthdlihiehfkceaaDoorPtAE
import Derived.Sort.QuietIn
import Derived.Test.YthdlihiehfkceaaDoorPtAD
import Derived.Laws.Rows
import Derived.WalkKit
import Derived.Lib.Hide
import Derived.Test.YthdlihiehfkceaaDoorRows
import Derived.Test.YthdlihiehfkceaaDoorPtAA
import Derived.Handy
import Derived.WalkLawsBesides
import Derived.WalkSpells
import Derived.Outline
namespace Go.Proofs.YthdlihiehfkceaaDoor
open Go.RowKit Go.Maps Go.WideMaps
set_option linter.unusedVariables false
attribute [local go_sem] Oper.semAt_some

theorem meth_mark (v : Value) (W : World) : (method 269 109 v "tumbler/asm.where").run Tryd.prog W = .ok (115, v) W := by kernel_rfl
theorem meth_order (v : Value) (W : World) : (method 269 111 v "tumbler/asm.where").run Tryd.prog W = .ok (116, v) W := by kernel_rfl
theorem call_mark (v : Value) (W : World) : (callFunc 115 #[v]).run Tryd.prog W = .ok (.enter 115 #[v]) W := enters_of Tryd.func115 (by kernel_rfl) rfl _ _
theorem call_order (v : Value) (W : World) : (callFunc 116 #[v]).run Tryd.prog W = .ok (.enter 116 #[v]) W := enters_of Tryd.func116 (by kernel_rfl) rfl _ _
set_option maxRecDepth 100000 in
set_option maxHeartbeats 4000000 in
theorem assemble_in (s : ByteArray) (w : World) (hs63 : s.size ≤ maxLen) : CallsIn Fence.wide 9 Tryd.prog 14 #[.string s] w (AsmPost s w) := by
  obtain ⟨L, lp, le, hlex⟩ : ∃ L lp le, lexP s = (L, lp, le) := ⟨_, _, _, rfl⟩
  have hla := lex_any s w hs63
  unfold LexPost at hla
  rw [hlex] at hla
  simp only at hla
  have HLa := Lib.hid hla
  clear hla
  refine callsIn_of_wp_marks Tryd.func14 rfl trivial ?_ rfl
  simp only [Tryd.ntmps14, List.size_toArray, List.length_cons, List.length_nil, Nat.reduceAdd, Nat.reduceSub, Array.replicate_succ, Array.replicate_zero, List.push_toArray, List.append_toArray, List.nil_append, List.cons_append]
  have hf1 : Fence.wide.fn 31 := trivial
  have hf2 : Fence.wide.fn 32 := trivial
  have hf3 : Fence.wide.fn 33 := trivial
  have hf4 : Fence.wide.fn 34 := trivial
  have hf5 : Fence.wide.fn 35 := trivial
  have hf6 : Fence.wide.fn 115 := trivial
  have hf7 : Fence.wide.fn 116 := trivial
  by_cases he : le = 0
  · subst he
    have hmm := @run_makeMap Tryd.prog
    gi_wp2_with (first
      | (gi_at_call 31; refine (callsIn_wide.2 HLa.out).mono ?_; rintro e w1 ⟨v, rfl, hrow, hb⟩; obtain ⟨A, c, rfl, hnc, hrd⟩ := Rd.of_own_cap hrow)
      | (gi_at_call 32; refine (linesv_in Fence.wide _ trivial rfl _ _ _ _).mono ?_; rintro e w' ⟨rfl, rfl⟩))
    have hs65 : s.size ≤ 65536 := by
      rcases Nat.lt_or_ge 65536 s.size with h | h
      · rw [lexP, if_pos h] at hlex; cases hlex
      · exact h
    have hforms := lexP_forms s hs65
    rw [hlex] at hforms
    obtain ⟨hform, hLs⟩ := hforms
    simp only at hform hLs
    have HLex := Lib.hid hlex
    have HForm := Lib.hid hform
    have HB1 := Lib.hid hb
    have hb1 := hb.size
    obtain ⟨ma, hma⟩ : ∃ ma, w1.heap.size = ma := ⟨_, rfl⟩
    obtain ⟨W0, hW0⟩ : ∃ W0, (((w1.alloc (.map #[] 0)).alloc (.cells #[.slice none 0 0, .map (some w1.heap.size)] 71)).alloc (.cells #[.slice none 0 0] 72)).alloc (.cells #[.slice A L.length c] 56) = W0 := ⟨_, rfl⟩
    have hs0 : W0.heap.size = ma + 4 := by rw [← hW0, ← hma]; simp
    obtain ⟨Wm, hWm⟩ : ∃ Wm, (w1.alloc (.map #[] 0)).alloc (.cells #[.slice none 0 0, .map (some w1.heap.size)] 71) = Wm := ⟨_, rfl⟩
    have hsm : Wm.heap.size = ma + 2 := by rw [← hWm, ← hma]; simp
    have qm : Wm.ownsMap Tryd.prog 9 (plainElem (H := Unit) Tryd.prog 3) ma 0 (.map []) := by
      rw [← hWm, ← hma]
      exact (World.ownsMap_made _ _ _ _).kept (World.grownBy_alloc _ _ none) (by simp)
    have hBm : Below (ma + 2) Wm W0 := by
      rw [← hW0, hWm]
      exact ((Below.refl _ _).alloc (by omega) _).alloc (by simp; omega) _
    have qp : Bk W0 (ma + 1) 71 #[.slice none 0 0, .map (some ma)] := by
      rw [← hW0, ← hma]
      have h := Bk.new (w1.alloc (.map #[] 0)) 71 #[.slice none 0 0, .map (some w1.heap.size)]
      simp only [World.size_alloc] at h
      exact (h.alloc _).alloc _
    have ql : Boxed W0 (ma + 2) 72 (.slice none 0 0) := by
      rw [← hW0, ← hma]
      have h := Boxed.new ((w1.alloc (.map #[] 0)).alloc (.cells #[.slice none 0 0, .map (some w1.heap.size)] 71)) 72 (.slice none 0 0)
      simp only [World.size_alloc] at h
      exact h.alloc _
    have qb : Boxed W0 (ma + 3) 56 (.slice A L.length c) := by
      rw [← hW0, ← hma]
      have h := Boxed.new (((w1.alloc (.map #[] 0)).alloc (.cells #[.slice none 0 0, .map (some w1.heap.size)] 71)).alloc (.cells #[.slice none 0 0] 72)) 56 (.slice A L.length c)
      simp only [World.size_alloc] at h
      exact h
    have hB0 : Below ma w1 W0 := by
      rw [← hW0, ← hma]
      exact ((((Below.refl _ _).alloc (Nat.le_refl _) _).alloc (by simp) _).alloc (by simp; omega) _).alloc (by simp; omega) _
    have hrd0 : RdT W0 (ma + 2) A L.length L := by
      have h := hrd
      rw [hma] at h
      exact (h.below hB0).more (by omega)
    rw [hW0, hma]
    have HM0 := Lib.hid qm
    have HP0 := Lib.hid qp
    have HB0 := Lib.hid hB0
    have HBm := Lib.hid hBm
    clear hBm hWm hW0 qm qp hB0 hrd hrow hb hlex hform hmm
    obtain ⟨i0, hi, hz0, hz1, hz2⟩ := info_parts info_slT
    have hLn := linesGo_le L []
    have hLn2 : (linesP L).length ≤ 65537 := by unfold linesP; omega
    clear hLn
    refine' loop_told rfl (by omega) (gf := 55) (lb := #[.pointer (some ⟨ma + 3, 0, none⟩)]) rfl trivial (enters_of Tryd.func55 (by kernel_rfl) rfl) (fun _ => rfl) (n₀ := ma + 2) (by omega) (told_own L (ma + 2))
      (lines_told Fence.wide (9 - 1) trivial rfl (by omega) (ma + 3) (ma + 2) L A L.length c W0 (by omega) (by omega) qb.cell hrd0 (by omega))
      (fun pre W => Gath (linesP L) (ma + 2) (ma + 2) pre W ∧ Below (ma + 2) W0 W)
      (fun pre W => False)
      ((gath_own _ _ _ _).and (ownFrom_below (by omega) (by omega)))
      (fun _ _ _ _ h _ _ => h)
      ⟨⟨[], .slice none 0 0, ⟨rfl, fun i x ln hx => by simp at hx⟩, ql, World.ownsRow_nil _ _ _ _⟩, Below.refl _ _⟩
      _ ?assign ?body ?done ?stop
    case assign =>
      intro lp x W K hK
      simp only [slEnc]
      gi_wp2
      exact hK
    case stop =>
      intro D pre W _ _ h
      exact h.elim
    case body =>
      rintro lp' pre ⟨_, A1, n1, c1, rfl⟩ W ⟨⟨kp, v, hln, hbx, hrow⟩, hB⟩ ⟨ln, hl1, hl2⟩
      obtain rfl : n1 = ln.length := by
        obtain ⟨_, _, h, _, _⟩ := Rd.of_own_cap hl2
        simp only at h
        injection h
      have hc := hbx.cell
      have hsz := hB.size
      have hpl : pre.length < (linesP L).length := (List.getElem?_eq_some_iff.1 hl1).1
      have hkl : kp.length ≤ 65537 := by
        have := hln.1
        have h2 := fullL_len ((linesP L).take pre.length)
        rw [List.length_take] at h2
        omega
      have HTk := Lib.hid (fullL_take hl1)
      have HLn := Lib.hid hln
      have HBx := Lib.hid hbx
      have HRow := Lib.hid hrow
      have HB := Lib.hid hB
      have HL2 := Lib.hid hl2
      clear hln hbx hrow hB hl1 hl2
      by_cases h0 : ln.length = 0
      · have hz : decide ((ln.length : Int) > 0) = false := decide_eq_false (by omega)
        have hln0 : ln = [] := List.eq_nil_of_length_eq_zero h0
        have hgt : ¬ (0 : Int) < (ln.length : Int) := by omega
        clear h0
        gi_wp2
        refine ⟨⟨KeepsOthers.refl _, Below.refl _ _⟩, ⟨kp, v, ?_, HBx.out, HRow.out⟩, HB.out⟩
        rw [List.length_append]
        show LnsOf (fullL ((linesP L).take (pre.length + 1))) _ _ _
        rw [HTk.out, if_pos hln0, List.append_nil]
        exact HLn.out
      · have hz : decide ((ln.length : Int) > 0) = true := decide_eq_true (by omega)
        have hln0 : ln ≠ [] := fun e => h0 (by rw [e]; rfl)
        have hgt : (0 : Int) < (ln.length : Int) := by omega
        clear h0
        gi_wp2_with (gi_at_builtin; refine wpListIn_append_own _ rfl (.tmp 34) (.tmp 36) 72 rfl (ma + 2) 56 i0 (.slice none 0 0) 1 24 Tryd.underlying72 hi hz0 hz1 hz2 rfl (by decide) _ kp.length (kp.map (·.1)) rfl ?c1 ⟨W.heap.size, 0, none⟩ 1 1 [.slice A1 ln.length c1] ?c2 ?c3 ?c4 ?c5 ?c6 ?c7 ?c8 ?_)
        case c1 => exact HRow.out.alloc _
        case c5 => rfl
        case c6 => simp only [maxLen]; omega
        case c7 => omega
        case c8 => omega
        intro v' w2 hown' hgrow _
        obtain ⟨g', cap', rfl⟩ := ownsRow_succ hown'
        have HLn1 : Hid (LnsOf (fullL ((linesP L).take pre.length) ++ [ln]) (ma + 2) (kp ++ [⟨.slice A1 ln.length c1, A1, ln.length, c1, rfl⟩]) w2) :=
          ((HLn.out.snoc (x := ⟨.slice A1 ln.length c1, A1, ln.length, c1, rfl⟩) HL2.out).kept (World.grownBy_alloc W _ none) (fun _ _ _ e => by cases e)).kept hgrow (fun g cs fz e hc => by
            obtain ⟨c2, fz2, h2⟩ := own_row (HRow.out.alloc _) e
            rw [h2] at hc; cases hc)
        obtain ⟨hv1, hv2, hr2, hk2, hb2⟩ := HBx.out.appended (by decide) HRow.out (by omega) (by omega) hown' hgrow
        have hc1 := hv1.cell
        have hf1 := hv1.frozen
        have hz1 := hv1.lt
        have HV1 := Lib.hid hv1
        have HV2 := Lib.hid hv2
        have HR2 := Lib.hid hr2
        have HK2 := Lib.hid hk2
        have HB2 := Lib.hid hb2
        clear hv1 hv2 hr2 hk2 hb2 hown' hgrow
        gi_wp2
        refine ⟨⟨HK2.out, HB2.out⟩, ⟨kp ++ [⟨.slice A1 ln.length c1, A1, ln.length, c1, rfl⟩], _, ?_, HV2.out, ?_⟩, HB.out.trans HB2.out⟩
        · rw [List.length_append]
          show LnsOf (fullL ((linesP L).take (pre.length + 1))) _ _ _
          rw [HTk.out, if_neg hln0]
          exact HLn1.out.kept (grownBy_setCell' _ _ _) (fun g cs fz e hc => by cases e; rw [show w2.heap[ma + 2]? = _ from HV1.out] at hc; cases hc)
        · rw [List.length_append, List.map_append]
          exact HR2.out
    case done =>
      rintro D ys W hD hS ⟨⟨kp, v, hln, hbx, hrow⟩, hB⟩ hK
      have hc := hbx.cell
      have hf := hbx.frozen
      obtain ⟨A', c', rfl, hcap, hrdl⟩ := Rd.of_own_cap hrow
      have hBsz := hB.size
      have hDlt : D < W.heap.size := (Array.getElem?_eq_some_iff.1 hK).1
      obtain ⟨ls, hls⟩ : ∃ ls, fullL (linesP L) = ls := ⟨_, rfl⟩
      have hlnF : LnsOf ls (ma + 2) kp W := by
        have h := hln
        rw [hS, List.take_length, hls] at h
        exact h
      obtain ⟨N, hN⟩ : ∃ N, kp.length = N := ⟨_, rfl⟩
      have hNl : ls.length = N := by rw [← hN]; exact hlnF.1.symm
      have hN65 : N ≤ 65537 := by have := fullL_len (linesP L); rw [hls] at this; omega
      rw [hN] at hrow hc hbx
      have HA : Hid (∀ r, readGo ls ⟨[], []⟩ = r → asmP s = if r.2.2 ≠ 0 then ([], r.2.1, r.2.2) else codeGo r.1 r.1.orders 0 []) := by
        intro r hr
        unfold asmP
        rw [HLex.out]
        simp only
        rw [if_neg (by simp), readGo_full, hls, hr]
      have HMem : Hid (∀ l ∈ ls, l ≠ [] ∧ ∀ t ∈ l, t.text.size ≤ 24) := by
        intro l hl
        rw [← hls] at hl
        obtain ⟨h1, h2⟩ := fullL_mem hl
        refine ⟨h2, fun t ht => ?_⟩
        rcases linesGo_mem h1 t ht with h | h
        · cases h
        · exact form_size (HForm.out t h)
      have HLnF := Lib.hid hlnF
      have HRow := Lib.hid hrow
      have HKD := Lib.hid hK
      have HNl := Lib.hid hNl
      have HWB := Lib.hid hB
      have HPrg : Hid (PrgIn W W.heap.size (ma + 1) ma ⟨[], []⟩) := by
        refine ⟨.slice none 0 0, .map [], HP0.out.below hB (by omega), World.ownsRow_nil _ _ _ _, HM0.out.kept (grown_of_below (by rw [hsm]; exact HBm.out.trans hB)) (by simp), ?_, by omega, by omega, by omega⟩
        exact ⟨fun s => rfl, fun s z => rfl⟩
      clear hln hlnF hK hbx hrow hB hrdl hls
      gi_wp2
      gi_loopw [40] (fun i wr => ∃ (k : Nat) (p : Prg), (k ≤ N ∧ i = .int .i64 k) ∧ Hid (POk p k) ∧ Hid (PrgIn wr W.heap.size (ma + 1) ma p) ∧ Hid (PFrm W.heap.size (ma + 1) ma W wr) ∧ Hid (readGo (ls.drop k) p = readGo ls ⟨[], []⟩)) (fun i _ => N - (intOf i).toNat)
      case atStart => exact ⟨0, ⟨[], []⟩, ⟨Nat.zero_le _, rfl⟩, POk.init, HPrg.out, PFrm.refl _ _ _ _, rfl⟩
      case round =>
        obtain ⟨k, p, ⟨hk, rfl⟩, HOk, HPr, HFr, HRd⟩ := hrel
        have hszr := HFr.out.size
        have HKr : Hid (wr.heap[D]? = some (.deferred (some []))) := (HFr.out.block D hDlt (by omega) (by omega)).trans HKD.out
        have HBr : Hid (Below w.heap.size w wr) := ((HB1.out.trans (HB0.out.mono (by omega))).trans (HWB.out.mono (by omega))).trans (HFr.out.toBelow (by omega) (by omega) (by omega))
        by_cases hlt : k < N
        · have hlti : (k : Int) < (N : Int) := by omega
          obtain ⟨x, hx⟩ : ∃ x, kp[k]? = some x := ⟨_, List.getElem?_eq_getElem (by omega)⟩
          obtain ⟨ln, hl⟩ : ∃ ln, ls[k]? = some ln := ⟨_, List.getElem?_eq_getElem (by rw [HNl.out]; exact hlt)⟩
          have hrow2 := HFr.out.own HRow.out (fun j e => by have := HRow.out.lt j e; omega)
          obtain ⟨_, _, he2, _, hrd2⟩ := Rd.of_own_cap hrow2
          cases he2
          obtain ⟨bA, oA, rfl, hbA, hcA⟩ := hrd2.at_ (show 0 < N by omega)
          have x0 : wr.cell? ⟨bA, oA + k, none⟩ = some x.1 := hcA k _ (by rw [List.getElem?_map, hx]; rfl)
          have htok := HLnF.out.2 k x ln hx hl
          have htok2 := HFr.out.own htok (fun j e => by have := htok.lt j e; omega)
          obtain ⟨x1, Ax, nx, cx, hxx⟩ := x
          subst hxx
          simp only at x0 htok2
          obtain ⟨_, _, he3, hnx, hrd3⟩ := Rd.of_own_cap htok2
          cases he3
          obtain ⟨hne, hsz24⟩ := HMem.out ln (List.mem_of_getElem? hl)
          have hl0 : 0 < ln.length := List.length_pos_iff.2 hne
          have hdr : ls.drop k = ln :: ls.drop (k + 1) := by
            have hkl : k < ls.length := by rw [HNl.out]; exact hlt
            rw [List.drop_eq_getElem_cons hkl]; rw [List.getElem?_eq_getElem hkl] at hl; injection hl with hl; rw [hl]
          have hrg := HRd.out
          rw [hdr, readGo, if_neg hne] at hrg
          have HT3 := Lib.hid hrd3
          have HTok := Lib.hid htok2
          have HS24 := Lib.hid hsz24
          have hpa := parse_any ln Ax ln.length cx wr hrd3 hl0 hnx
          unfold ParsePost at hpa
          have HPa := Lib.hid hpa
          clear hrow2 hrd2 hcA hx hl htok htok2 hrd3 hdr hsz24 hpa
          cases hpx : parseP ln with
          | none =>
            rw [hpx] at hrg HPa
            simp only [linV] at hrg HPa
            have HE : Hid (asmP s = ([], (Option.map Tok.at_ ln.head?).getD 0, 23)) := by
              have h := HA.out _ hrg.symm
              show _ = _
              rw [h, if_pos (by simp)]
            clear hrg hpx
            gi_wp2_with (
              gi_at_call 33
              refine (callsIn_wide.2 HPa.out).mono ?_
              rintro e w2 ⟨rfl, hb2⟩
              have HB2 := Lib.hid hb2
              clear hb2)
            obtain ⟨tb, to_, tk, htA, htB, htk, _, _, _, t3, _⟩ := (HT3.out.below HB2.out).tokAt (k := 0) hl0
            cases htA
            simp only [Nat.zero_mul, Nat.add_zero] at t3
            obtain ⟨r, rfl⟩ : ∃ r, ln = tk :: r := by
              cases ln with
              | nil => simp at htk
              | cons y r => exact ⟨r, by simp at htk; rw [htk]⟩
            have HE2 : Hid (asmP s = ([], tk.at_, 23)) := HE.out
            have hl0i : (0 : Int) < ((tk :: r).length : Int) := by omega
            clear htk htB
            obtain ⟨M, hM⟩ : ∃ M, (tk :: r).length = M := ⟨_, rfl⟩
            rw [hM] at hl0i hl0
            rw [hM]
            gi_quiet (fail)
            obtain ⟨W3, hW3⟩ : ∃ W3, w2.drewN nq = W3 := ⟨_, rfl⟩
            have HB3 : Hid (Below wr.heap.size wr W3) := by show Below _ _ _; rw [← hW3]; exact below_drewN HB2.out nq
            rw [hW3]
            clear hW3
            gi_wp2
            have hK3 := (HB3.out.block D (Array.getElem?_eq_some_iff.1 HKr.out).1).trans HKr.out
            refine ⟨by simp, .inl ⟨_, _, rfl, run_takeDeferred hK3, ?_⟩⟩
            refine ⟨.tuple #[.slice none 0 0, .int .i64 tk.at_, .int .i64 23], by simp [results, Tryd.results14, go_sem], ?_⟩
            exact AsmPost.bad HE2.out ((HBr.out.trans (HB3.out.mono HBr.out.size)).trans (belowK_b (w := w) (Nat.le_refl _) _ D _ _ (by omega) hK3 rfl rfl))
          | some x =>
            rw [hpx] at hrg HPa
            have HPx := Lib.hid hpx
            clear hpx
            simp only at hrg
            cases x with
            | mark ms mat =>
              have hput := fun W2 hp hB => aput_any W.heap.size (ma + 1) ma p (.mark ms mat) W2 hp hB (fun s a e => by cases e; have := parse_mark HPx.out HS24.out; unfold maxLen; omega) (by have := HOk.out.lab; omega) HOk.out.ord
              simp only [linV, Lin.val] at HPa hput
              obtain ⟨ap, hap⟩ : ∃ ap, addP p (.mark ms mat) = ap := ⟨_, rfl⟩
              have HAp := Lib.hid hap
              rw [hap] at hrg
              unfold PutPostA at hput
              rw [hap] at hput
              have HPut := Lib.hid hput
              obtain ⟨p2, er⟩ := ap
              simp only at hrg HPut
              clear hap hput
              by_cases her : er = 0
              · subst her
                rw [if_neg (by simp)] at hrg
                have HR2 := Lib.hid hrg
                clear hrg
                gi_wp2_with (first
                  | (gi_at_call 33
                     refine (callsIn_wide.2 HPa.out).mono ?_
                     rintro e w2 ⟨rfl, hb2⟩
                     have HB2 := Lib.hid hb2
                     clear hb2)
                  | (gi_at_call 34
                     refine (callsIn_wide.2 (HPut.out w2 (HPr.out.below HB2.out hszr) (Nat.le_trans hszr HB2.out.size))).mono ?_
                     rintro e w4 ⟨rfl, hp4, hf4⟩
                     have HP4 := Lib.hid hp4
                     have HF4 := Lib.hid (HFr.out.trans (hf4.of_below HB2.out hszr))
                     clear hp4 hf4))
                go_roundw
                case rel => exact ⟨k + 1, p2, ⟨by omega, by go_num⟩, by have h := HOk.out.add HPx.out HS24.out; rw [HAp.out] at h; exact h, HP4.out, HF4.out, HR2.out⟩
                case measure => simp [intOf]; omega
              · rw [if_pos her] at hrg
                have HE : Hid (asmP s = ([], mat, er)) := by
                  have h := HA.out _ hrg.symm
                  show _ = _
                  rw [h, if_pos her]; rfl
                have hnb : (er != 0) = true := by simpa using her
                have hme := meth_mark
                have hca := call_mark
                clear hrg
                gi_wp2_with (first
                  | (gi_at_call 33
                     refine (callsIn_wide.2 HPa.out).mono ?_
                     rintro e w2 ⟨rfl, hb2⟩
                     have HB2 := Lib.hid hb2
                     clear hb2)
                  | (gi_at_call 34
                     refine (callsIn_wide.2 (HPut.out w2 (HPr.out.below HB2.out hszr) (Nat.le_trans hszr HB2.out.size))).mono ?_
                     rintro e w4 ⟨rfl, hp4, hf4⟩
                     have HP4 := Lib.hid hp4
                     have HF4 := Lib.hid (HFr.out.trans (hf4.of_below HB2.out hszr))
                     clear hp4 hf4)
                  | (gi_at_call 115
                     refine (callsIn_wide.2 (where_mark ms mat w4)).mono ?_
                     rintro e w5 ⟨rfl, hb5⟩
                     have HB5 := Lib.hid hb5
                     clear hb5))
                have hK4 := (HF4.out.block D hDlt (by omega) (by omega)).trans HKD.out
                have hK3 := (HB5.out.block D (Array.getElem?_eq_some_iff.1 hK4).1).trans hK4
                have HBw : Hid (Below w.heap.size w w4) := ((HB1.out.trans (HB0.out.mono (by omega))).trans (HWB.out.mono (by omega))).trans (HF4.out.toBelow (by omega) (by omega) (by omega))
                refine ⟨by simp, .inl ⟨_, _, rfl, run_takeDeferred hK3, ?_⟩⟩
                refine ⟨.tuple #[.slice none 0 0, .int .i64 mat, .int .i64 er], by simp [results, Tryd.results14, go_sem], ?_⟩
                exact AsmPost.bad HE.out ((HBw.out.trans (HB5.out.mono HBw.out.size)).trans (belowK_b (w := w) (Nat.le_refl _) _ D _ _ (by omega) hK3 rfl rfl))
            | order o =>
              have hput := fun W2 hp hB => aput_any W.heap.size (ma + 1) ma p (.order o) W2 hp hB (fun s a e => by cases e) (by have := HOk.out.lab; omega) HOk.out.ord
              simp only [linV, Lin.val] at HPa hput
              obtain ⟨V, hV⟩ : ∃ V, Value.agg o.cells.toArray = V := ⟨_, rfl⟩
              obtain ⟨oat, hoat⟩ : ∃ oat, o.at_ = oat := ⟨_, rfl⟩
              have hwo := where_order o
              rw [hV, hoat] at hwo
              rw [hV] at HPa hput
              have HWo := Lib.hid hwo
              have HOat := Lib.hid hoat
              clear hV hoat hwo
              obtain ⟨ap, hap⟩ : ∃ ap, addP p (.order o) = ap := ⟨_, rfl⟩
              have HAp := Lib.hid hap
              rw [hap] at hrg
              unfold PutPostA at hput
              rw [hap] at hput
              have HPut := Lib.hid hput
              obtain ⟨p2, er⟩ := ap
              simp only at hrg HPut
              clear hap hput
              by_cases her : er = 0
              · subst her
                rw [if_neg (by simp)] at hrg
                have HR2 := Lib.hid hrg
                clear hrg
                gi_wp2_with (first
                  | (gi_at_call 33
                     refine (callsIn_wide.2 HPa.out).mono ?_
                     rintro e w2 ⟨rfl, hb2⟩
                     have HB2 := Lib.hid hb2
                     clear hb2)
                  | (gi_at_call 34
                     refine (callsIn_wide.2 (HPut.out w2 (HPr.out.below HB2.out hszr) (Nat.le_trans hszr HB2.out.size))).mono ?_
                     rintro e w4 ⟨rfl, hp4, hf4⟩
                     have HP4 := Lib.hid hp4
                     have HF4 := Lib.hid (HFr.out.trans (hf4.of_below HB2.out hszr))
                     clear hp4 hf4))
                go_roundw
                case rel => exact ⟨k + 1, p2, ⟨by omega, by go_num⟩, by have h := HOk.out.add HPx.out HS24.out; rw [HAp.out] at h; exact h, HP4.out, HF4.out, HR2.out⟩
                case measure => simp [intOf]; omega
              · rw [if_pos her] at hrg
                have HE : Hid (asmP s = ([], oat, er)) := by
                  have h := HA.out _ hrg.symm
                  show _ = _
                  rw [h, if_pos her, ← HOat.out]; rfl
                have hnb : (er != 0) = true := by simpa using her
                have hme := meth_order
                have hca := call_order
                clear hrg
                gi_wp2_with (first
                  | (gi_at_call 33
                     refine (callsIn_wide.2 HPa.out).mono ?_
                     rintro e w2 ⟨rfl, hb2⟩
                     have HB2 := Lib.hid hb2
                     clear hb2)
                  | (gi_at_call 34
                     refine (callsIn_wide.2 (HPut.out w2 (HPr.out.below HB2.out hszr) (Nat.le_trans hszr HB2.out.size))).mono ?_
                     rintro e w4 ⟨rfl, hp4, hf4⟩
                     have HP4 := Lib.hid hp4
                     have HF4 := Lib.hid (HFr.out.trans (hf4.of_below HB2.out hszr))
                     clear hp4 hf4)
                  | (gi_at_call 116
                     refine (callsIn_wide.2 (HWo.out w4)).mono ?_
                     rintro e w5 ⟨rfl, hb5⟩
                     have HB5 := Lib.hid hb5
                     clear hb5))
                have hK4 := (HF4.out.block D hDlt (by omega) (by omega)).trans HKD.out
                have hK3 := (HB5.out.block D (Array.getElem?_eq_some_iff.1 hK4).1).trans hK4
                have HBw : Hid (Below w.heap.size w w4) := ((HB1.out.trans (HB0.out.mono (by omega))).trans (HWB.out.mono (by omega))).trans (HF4.out.toBelow (by omega) (by omega) (by omega))
                refine ⟨by simp, .inl ⟨_, _, rfl, run_takeDeferred hK3, ?_⟩⟩
                refine ⟨.tuple #[.slice none 0 0, .int .i64 oat, .int .i64 er], by simp [results, Tryd.results14, go_sem], ?_⟩
                exact AsmPost.bad HE.out ((HBw.out.trans (HB5.out.mono HBw.out.size)).trans (belowK_b (w := w) (Nat.le_refl _) _ D _ _ (by omega) hK3 rfl rfl))
        · obtain rfl : k = N := by omega
          have hrg := HRd.out
          rw [List.drop_of_length_le (by rw [HNl.out]; exact Nat.le_refl _), readGo] at hrg
          obtain ⟨cl, ca, ce, hcd⟩ : ∃ cl ca ce, codeGo p p.orders 0 [] = (cl, ca, ce) := ⟨_, _, _, rfl⟩
          have HE : Hid (asmP s = (cl, ca, ce)) := by
            have h := HA.out _ hrg.symm
            show _ = _
            rw [h, if_neg (by simp), hcd]
          have hco := code_any W.heap.size (ma + 1) ma p wr HPr.out hszr HOk.out.ord HOk.out.at_ HOk.out.nam
          unfold CodePost at hco
          rw [hcd] at hco
          simp only at hco
          have HCo := Lib.hid hco
          clear hrg hco hcd
          gi_wp2_with (
            gi_at_call 35
            refine (callsIn_wide.2 HCo.out).mono ?_
            rintro e w2 ⟨v2, rfl, hrow2, hb2⟩
            have HR2 := Lib.hid hrow2
            have HB2 := Lib.hid hb2
            clear hrow2 hb2)
          have hK3 := (HB2.out.block D (Array.getElem?_eq_some_iff.1 HKr.out).1).trans HKr.out
          refine ⟨by simp, .inl ⟨_, _, rfl, run_takeDeferred hK3, ?_⟩⟩
          refine ⟨.tuple #[v2, .int .i64 ca, .int .i64 ce], by simp [results, Tryd.results14, go_sem], ?_⟩
          unfold AsmPost
          rw [HE.out]
          refine ⟨v2, rfl, ?_, (HBr.out.trans (HB2.out.mono HBr.out.size)).trans (belowK_b (w := w) (Nat.le_refl _) _ D _ _ (by omega) hK3 rfl rfl)⟩
          exact own_base (row_others HR2.out (grownBy_putObj' w2 D (.deferred none)) (fun r e => by cases e; exact ⟨_, hK3, rfl⟩)) HBr.out.size
  · have HE : Hid (asmP s = ([], lp, le)) := by show _ = _; unfold asmP; rw [hlex]; simp only; rw [if_pos he]
    have hne : (le != 0) = true := by simpa using he
    gi_wp2_with (gi_at_call 31; refine (callsIn_wide.2 HLa.out).mono ?_; rintro e w1 ⟨v, rfl, hrow, hb⟩; have HB := Lib.hid hb; clear hrow hb)
    refine ⟨.tuple #[.slice none 0 0, .int .i64 lp, .int .i64 le], by simp [results, Tryd.results14, go_sem], ?_⟩
    exact AsmPost.bad HE.out HB.out
theorem assemble_any (s : ByteArray) (w : World) (hs63 : s.size ≤ maxLen) : Calls Tryd.prog 14 #[.string s] w (AsmPost s w) :=
  (callsIn_wide (n := 9)).1 (assemble_in s w hs63)
end Go.Proofs.YthdlihiehfkceaaDoor

namespace Go.Proofs.YthdlihiehfkceaaDoor
open Go.RowKit
set_option linter.unusedVariables false

/-- What stands for a rune of a form. -/
def tokP (c : Nat) (i : Ins) : Tok :=
  if c = 97 then ⟨0, regName i.a.toNat, 0, 0, 0⟩ else if c = 98 then ⟨0, regName i.b.toNat, 0, 0, 0⟩ else if c = 99 then ⟨0, regName i.c.toNat, 0, 0, 0⟩ else if c = 105 then ⟨1, ⟨#[]⟩, i.imm, 0, 0⟩ else
  if c = 108 then ⟨0, labelP i.imm.toNat, 0, 0, 0⟩ else if wordP c ≠ ⟨#[]⟩ then ⟨0, wordP c, 0, 0, 0⟩ else ⟨2, Utf8.encode (c : Int), 0, 0, 0⟩
theorem a_five {w : World} {g : Nat} {t : TypeId} {a0 a1 a2 a3 a4 : Value} (h : Bk w g t #[a0, a1, a2, a3, a4]) (b0 b1 b2 b3 b4 : Value) :
    Bk (((((w.setCell ⟨g, 0, none⟩ b0).setCell ⟨g, 1, none⟩ b1).setCell ⟨g, 2, none⟩ b2).setCell ⟨g, 3, none⟩ b3).setCell ⟨g, 4, none⟩ b4) g t #[b0, b1, b2, b3, b4] :=
  ((((h.set_ 0 b0).set_ 1 b1).set_ 2 b2).set_ 3 b3).set_ 4 b4
theorem a_below_five {B : Nat} {a w : World} (h : Below B a w) {g : Nat} (hg : B ≤ g) (b0 b1 b2 b3 b4 : Value) :
    Below B a (((((w.setCell ⟨g, 0, none⟩ b0).setCell ⟨g, 1, none⟩ b1).setCell ⟨g, 2, none⟩ b2).setCell ⟨g, 3, none⟩ b3).setCell ⟨g, 4, none⟩ b4) :=
  ((((h.setCell hg b0).setCell hg b1).setCell hg b2).setCell hg b3).setCell hg b4
theorem info_token : (Tryd.prog.info? 58).map (·.size) = some 5 := by kernel_rfl
theorem res_token {fn : Func} (hr : fn.results = #[.cell 4 58]) (tmps : Array Value) (w : World) (g : Nat) (cs : Array Value) (h5 : cs.size = 5) (hp : tmps.getD 4 undef = .pointer (some ⟨g, 0, none⟩)) (hg : Bk w g 58 cs) :
    (results fn tmps).run Tryd.prog w = .ok (.agg cs) w :=
  results_cell_row hr tmps w g _ cs _ _ hp hg Tryd.underlying58 rfl (by rw [h5]; exact info_token)

set_option maxHeartbeats 4000000 in
theorem token_a (i : Ins) (w : World) (htab : PowTab w) (h0 : 0 ≤ i.a ∧ i.a < 16) :
    Calls Tryd.prog 25 #[.int .i32 97, .agg i.cells.toArray] w fun e w' => e = .returned (tokP 97 i).val ∧ Below w.heap.size w w' := by
  obtain ⟨x, hx⟩ : ∃ x : Nat, i.a = x := ⟨i.a.toNat, by omega⟩
  have h16 : x < 16 := by omega
  obtain ⟨oo, oa, ob, oc, om⟩ := i
  simp only at hx h0
  subst hx
  clear h0
  simp only [Ins.cells]
  go_enter Tryd.func25, Tryd.ntmps25
  go_upto_region 1 with fail
  obtain ⟨W0, hW0⟩ : ∃ W0, (w.alloc (.cells #[.int .i64 oo, .int .i64 (x : Int), .int .i64 ob, .int .i64 oc, .int .u64 om] 35)).alloc (.cells #[.int .i64 0, .string ⟨#[]⟩, .int .u64 0, .int .i64 0, .int .i64 0] 58) = W0 := ⟨_, rfl⟩
  rw [hW0]
  have HI : Hid (Bk W0 w.heap.size 35 #[.int .i64 oo, .int .i64 (x : Int), .int .i64 ob, .int .i64 oc, .int .u64 om]) := by show Bk _ _ _ _; rw [← hW0]; exact (Bk.new w _ _).alloc _
  have HT : Hid (Bk W0 (w.heap.size + 1) 58 #[.int .i64 0, .string ⟨#[]⟩, .int .u64 0, .int .i64 0, .int .i64 0]) := by show Bk _ _ _ _; rw [← hW0]; exact a_bk_new2 _ _ _ _
  have HB : Hid (Below w.heap.size w W0) := by show Below _ _ _; rw [← hW0]; exact ((Below.refl _ _).alloc (Nat.le_refl _) _).alloc (by simp) _
  have htab0 : PowTab W0 := htab.below HB.out
  have HTab := Lib.hid htab0
  clear hW0 htab htab0
  have k0 : W0.cell? ⟨w.heap.size, 1, none⟩ = some (.int .i64 (x : Int)) := HI.out.cell 1
  have k1 : W0.cell? ⟨w.heap.size, 2, none⟩ = some (.int .i64 ob) := HI.out.cell 2
  have k2 : W0.cell? ⟨w.heap.size, 3, none⟩ = some (.int .i64 oc) := HI.out.cell 3
  have k3 : W0.cell? ⟨w.heap.size, 4, none⟩ = some (.int .u64 om) := HI.out.cell 4
  have hdl : (Lib.decDigits x).length ≤ 20 := by rw [Lib.decDigits_length]; exact Lib.nDigits_le20 x (by omega)
  have t0 : W0.cell? ⟨w.heap.size + 1, 0, none⟩ = some (.int .i64 0) := HT.out.cell 0
  have s0 := HT.out.frozen 0
  have t1 : W0.cell? ⟨w.heap.size + 1, 1, none⟩ = some (.string ⟨#[]⟩) := HT.out.cell 1
  have s1 := HT.out.frozen 1
  have t2 : W0.cell? ⟨w.heap.size + 1, 2, none⟩ = some (.int .u64 0) := HT.out.cell 2
  have s2 := HT.out.frozen 2
  have t3 : W0.cell? ⟨w.heap.size + 1, 3, none⟩ = some (.int .i64 0) := HT.out.cell 3
  have s3 := HT.out.frozen 3
  have t4 : W0.cell? ⟨w.heap.size + 1, 4, none⟩ = some (.int .i64 0) := HT.out.cell 4
  have s4 := HT.out.frozen 4
  go_wp2_with (go_at_call 47; refine (Tryd.strconv_Itoa_small x (by omega) _).mono ?_; rintro e w9 ⟨rfl, he9⟩; obtain rfl : W0 = w9 := he9.symm)
  (try simp only [Exit.inBlock, Exit.then])
  refine bodyPost_ret (v := .agg #[.int .i64 0, .string ((⟨#[114]⟩ : ByteArray) ++ ⟨(Lib.decDigits x).toArray⟩), .int .u64 0, .int .i64 0, .int .i64 0]) ?_ rfl ⟨?_, ?_⟩
  · have hbk := a_five HT.out (.int .i64 0) (.string ((⟨#[114]⟩ : ByteArray) ++ ⟨(Lib.decDigits x).toArray⟩)) (.int .u64 0) (.int .i64 0) (.int .i64 0)
    exact res_token rfl _ _ (w.heap.size + 1) _ rfl rfl hbk
  · rw [regName_is h16]; rfl
  · exact a_below_five HB.out (by omega) _ _ _ _ _

set_option maxHeartbeats 4000000 in
theorem token_b (i : Ins) (w : World) (htab : PowTab w) (h0 : 0 ≤ i.b ∧ i.b < 16) :
    Calls Tryd.prog 25 #[.int .i32 98, .agg i.cells.toArray] w fun e w' => e = .returned (tokP 98 i).val ∧ Below w.heap.size w w' := by
  obtain ⟨x, hx⟩ : ∃ x : Nat, i.b = x := ⟨i.b.toNat, by omega⟩
  have h16 : x < 16 := by omega
  obtain ⟨oo, oa, ob, oc, om⟩ := i
  simp only at hx h0
  subst hx
  clear h0
  simp only [Ins.cells]
  go_enter Tryd.func25, Tryd.ntmps25
  go_upto_region 1 with fail
  obtain ⟨W0, hW0⟩ : ∃ W0, (w.alloc (.cells #[.int .i64 oo, .int .i64 oa, .int .i64 (x : Int), .int .i64 oc, .int .u64 om] 35)).alloc (.cells #[.int .i64 0, .string ⟨#[]⟩, .int .u64 0, .int .i64 0, .int .i64 0] 58) = W0 := ⟨_, rfl⟩
  rw [hW0]
  have HI : Hid (Bk W0 w.heap.size 35 #[.int .i64 oo, .int .i64 oa, .int .i64 (x : Int), .int .i64 oc, .int .u64 om]) := by show Bk _ _ _ _; rw [← hW0]; exact (Bk.new w _ _).alloc _
  have HT : Hid (Bk W0 (w.heap.size + 1) 58 #[.int .i64 0, .string ⟨#[]⟩, .int .u64 0, .int .i64 0, .int .i64 0]) := by show Bk _ _ _ _; rw [← hW0]; exact a_bk_new2 _ _ _ _
  have HB : Hid (Below w.heap.size w W0) := by show Below _ _ _; rw [← hW0]; exact ((Below.refl _ _).alloc (Nat.le_refl _) _).alloc (by simp) _
  have htab0 : PowTab W0 := htab.below HB.out
  have HTab := Lib.hid htab0
  clear hW0 htab htab0
  have k0 : W0.cell? ⟨w.heap.size, 1, none⟩ = some (.int .i64 oa) := HI.out.cell 1
  have k1 : W0.cell? ⟨w.heap.size, 2, none⟩ = some (.int .i64 (x : Int)) := HI.out.cell 2
  have k2 : W0.cell? ⟨w.heap.size, 3, none⟩ = some (.int .i64 oc) := HI.out.cell 3
  have k3 : W0.cell? ⟨w.heap.size, 4, none⟩ = some (.int .u64 om) := HI.out.cell 4
  have hdl : (Lib.decDigits x).length ≤ 20 := by rw [Lib.decDigits_length]; exact Lib.nDigits_le20 x (by omega)
  have t0 : W0.cell? ⟨w.heap.size + 1, 0, none⟩ = some (.int .i64 0) := HT.out.cell 0
  have s0 := HT.out.frozen 0
  have t1 : W0.cell? ⟨w.heap.size + 1, 1, none⟩ = some (.string ⟨#[]⟩) := HT.out.cell 1
  have s1 := HT.out.frozen 1
  have t2 : W0.cell? ⟨w.heap.size + 1, 2, none⟩ = some (.int .u64 0) := HT.out.cell 2
  have s2 := HT.out.frozen 2
  have t3 : W0.cell? ⟨w.heap.size + 1, 3, none⟩ = some (.int .i64 0) := HT.out.cell 3
  have s3 := HT.out.frozen 3
  have t4 : W0.cell? ⟨w.heap.size + 1, 4, none⟩ = some (.int .i64 0) := HT.out.cell 4
  have s4 := HT.out.frozen 4
  go_wp2_with (go_at_call 47; refine (Tryd.strconv_Itoa_small x (by omega) _).mono ?_; rintro e w9 ⟨rfl, he9⟩; obtain rfl : W0 = w9 := he9.symm)
  (try simp only [Exit.inBlock, Exit.then])
  refine bodyPost_ret (v := .agg #[.int .i64 0, .string ((⟨#[114]⟩ : ByteArray) ++ ⟨(Lib.decDigits x).toArray⟩), .int .u64 0, .int .i64 0, .int .i64 0]) ?_ rfl ⟨?_, ?_⟩
  · have hbk := a_five HT.out (.int .i64 0) (.string ((⟨#[114]⟩ : ByteArray) ++ ⟨(Lib.decDigits x).toArray⟩)) (.int .u64 0) (.int .i64 0) (.int .i64 0)
    exact res_token rfl _ _ (w.heap.size + 1) _ rfl rfl hbk
  · rw [regName_is h16]; rfl
  · exact a_below_five HB.out (by omega) _ _ _ _ _

set_option maxHeartbeats 4000000 in
theorem token_c (i : Ins) (w : World) (htab : PowTab w) (h0 : 0 ≤ i.c ∧ i.c < 16) :
    Calls Tryd.prog 25 #[.int .i32 99, .agg i.cells.toArray] w fun e w' => e = .returned (tokP 99 i).val ∧ Below w.heap.size w w' := by
  obtain ⟨x, hx⟩ : ∃ x : Nat, i.c = x := ⟨i.c.toNat, by omega⟩
  have h16 : x < 16 := by omega
  obtain ⟨oo, oa, ob, oc, om⟩ := i
  simp only at hx h0
  subst hx
  clear h0
  simp only [Ins.cells]
  go_enter Tryd.func25, Tryd.ntmps25
  go_upto_region 1 with fail
  obtain ⟨W0, hW0⟩ : ∃ W0, (w.alloc (.cells #[.int .i64 oo, .int .i64 oa, .int .i64 ob, .int .i64 (x : Int), .int .u64 om] 35)).alloc (.cells #[.int .i64 0, .string ⟨#[]⟩, .int .u64 0, .int .i64 0, .int .i64 0] 58) = W0 := ⟨_, rfl⟩
  rw [hW0]
  have HI : Hid (Bk W0 w.heap.size 35 #[.int .i64 oo, .int .i64 oa, .int .i64 ob, .int .i64 (x : Int), .int .u64 om]) := by show Bk _ _ _ _; rw [← hW0]; exact (Bk.new w _ _).alloc _
  have HT : Hid (Bk W0 (w.heap.size + 1) 58 #[.int .i64 0, .string ⟨#[]⟩, .int .u64 0, .int .i64 0, .int .i64 0]) := by show Bk _ _ _ _; rw [← hW0]; exact a_bk_new2 _ _ _ _
  have HB : Hid (Below w.heap.size w W0) := by show Below _ _ _; rw [← hW0]; exact ((Below.refl _ _).alloc (Nat.le_refl _) _).alloc (by simp) _
  have htab0 : PowTab W0 := htab.below HB.out
  have HTab := Lib.hid htab0
  clear hW0 htab htab0
  have k0 : W0.cell? ⟨w.heap.size, 1, none⟩ = some (.int .i64 oa) := HI.out.cell 1
  have k1 : W0.cell? ⟨w.heap.size, 2, none⟩ = some (.int .i64 ob) := HI.out.cell 2
  have k2 : W0.cell? ⟨w.heap.size, 3, none⟩ = some (.int .i64 (x : Int)) := HI.out.cell 3
  have k3 : W0.cell? ⟨w.heap.size, 4, none⟩ = some (.int .u64 om) := HI.out.cell 4
  have hdl : (Lib.decDigits x).length ≤ 20 := by rw [Lib.decDigits_length]; exact Lib.nDigits_le20 x (by omega)
  have t0 : W0.cell? ⟨w.heap.size + 1, 0, none⟩ = some (.int .i64 0) := HT.out.cell 0
  have s0 := HT.out.frozen 0
  have t1 : W0.cell? ⟨w.heap.size + 1, 1, none⟩ = some (.string ⟨#[]⟩) := HT.out.cell 1
  have s1 := HT.out.frozen 1
  have t2 : W0.cell? ⟨w.heap.size + 1, 2, none⟩ = some (.int .u64 0) := HT.out.cell 2
  have s2 := HT.out.frozen 2
  have t3 : W0.cell? ⟨w.heap.size + 1, 3, none⟩ = some (.int .i64 0) := HT.out.cell 3
  have s3 := HT.out.frozen 3
  have t4 : W0.cell? ⟨w.heap.size + 1, 4, none⟩ = some (.int .i64 0) := HT.out.cell 4
  have s4 := HT.out.frozen 4
  go_wp2_with (go_at_call 47; refine (Tryd.strconv_Itoa_small x (by omega) _).mono ?_; rintro e w9 ⟨rfl, he9⟩; obtain rfl : W0 = w9 := he9.symm)
  (try simp only [Exit.inBlock, Exit.then])
  refine bodyPost_ret (v := .agg #[.int .i64 0, .string ((⟨#[114]⟩ : ByteArray) ++ ⟨(Lib.decDigits x).toArray⟩), .int .u64 0, .int .i64 0, .int .i64 0]) ?_ rfl ⟨?_, ?_⟩
  · have hbk := a_five HT.out (.int .i64 0) (.string ((⟨#[114]⟩ : ByteArray) ++ ⟨(Lib.decDigits x).toArray⟩)) (.int .u64 0) (.int .i64 0) (.int .i64 0)
    exact res_token rfl _ _ (w.heap.size + 1) _ rfl rfl hbk
  · rw [regName_is h16]; rfl
  · exact a_below_five HB.out (by omega) _ _ _ _ _

set_option maxHeartbeats 4000000 in
theorem token_i (i : Ins) (w : World) (htab : PowTab w) :
    Calls Tryd.prog 25 #[.int .i32 105, .agg i.cells.toArray] w fun e w' => e = .returned (tokP 105 i).val ∧ Below w.heap.size w w' := by
  obtain ⟨oo, oa, ob, oc, om⟩ := i
  simp only [Ins.cells]
  go_enter Tryd.func25, Tryd.ntmps25
  go_upto_region 1 with fail
  obtain ⟨W0, hW0⟩ : ∃ W0, (w.alloc (.cells #[.int .i64 oo, .int .i64 oa, .int .i64 ob, .int .i64 oc, .int .u64 om] 35)).alloc (.cells #[.int .i64 0, .string ⟨#[]⟩, .int .u64 0, .int .i64 0, .int .i64 0] 58) = W0 := ⟨_, rfl⟩
  rw [hW0]
  have HI : Hid (Bk W0 w.heap.size 35 #[.int .i64 oo, .int .i64 oa, .int .i64 ob, .int .i64 oc, .int .u64 om]) := by show Bk _ _ _ _; rw [← hW0]; exact (Bk.new w _ _).alloc _
  have HT : Hid (Bk W0 (w.heap.size + 1) 58 #[.int .i64 0, .string ⟨#[]⟩, .int .u64 0, .int .i64 0, .int .i64 0]) := by show Bk _ _ _ _; rw [← hW0]; exact a_bk_new2 _ _ _ _
  have HB : Hid (Below w.heap.size w W0) := by show Below _ _ _; rw [← hW0]; exact ((Below.refl _ _).alloc (Nat.le_refl _) _).alloc (by simp) _
  have htab0 : PowTab W0 := htab.below HB.out
  have HTab := Lib.hid htab0
  clear hW0 htab htab0
  have k0 : W0.cell? ⟨w.heap.size, 1, none⟩ = some (.int .i64 oa) := HI.out.cell 1
  have k1 : W0.cell? ⟨w.heap.size, 2, none⟩ = some (.int .i64 ob) := HI.out.cell 2
  have k2 : W0.cell? ⟨w.heap.size, 3, none⟩ = some (.int .i64 oc) := HI.out.cell 3
  have k3 : W0.cell? ⟨w.heap.size, 4, none⟩ = some (.int .u64 om) := HI.out.cell 4
  have t0 : W0.cell? ⟨w.heap.size + 1, 0, none⟩ = some (.int .i64 0) := HT.out.cell 0
  have s0 := HT.out.frozen 0
  have t1 : W0.cell? ⟨w.heap.size + 1, 1, none⟩ = some (.string ⟨#[]⟩) := HT.out.cell 1
  have s1 := HT.out.frozen 1
  have t2 : W0.cell? ⟨w.heap.size + 1, 2, none⟩ = some (.int .u64 0) := HT.out.cell 2
  have s2 := HT.out.frozen 2
  have t3 : W0.cell? ⟨w.heap.size + 1, 3, none⟩ = some (.int .i64 0) := HT.out.cell 3
  have s3 := HT.out.frozen 3
  have t4 : W0.cell? ⟨w.heap.size + 1, 4, none⟩ = some (.int .i64 0) := HT.out.cell 4
  have s4 := HT.out.frozen 4
  go_wp2
  (try simp only [Exit.inBlock, Exit.then])
  refine bodyPost_ret (v := .agg #[.int .i64 1, .string ⟨#[]⟩, .int .u64 om, .int .i64 0, .int .i64 0]) ?_ rfl ⟨?_, ?_⟩
  · have hbk := a_five HT.out (.int .i64 1) (.string ⟨#[]⟩) (.int .u64 om) (.int .i64 0) (.int .i64 0)
    exact res_token rfl _ _ (w.heap.size + 1) _ rfl rfl hbk
  · rfl
  · exact a_below_five HB.out (by omega) _ _ _ _ _

set_option maxHeartbeats 4000000 in
theorem token_l (i : Ins) (w : World) (htab : PowTab w) (h0 : 0 ≤ i.imm ∧ i.imm ≤ 256) :
    Calls Tryd.prog 25 #[.int .i32 108, .agg i.cells.toArray] w fun e w' => e = .returned (tokP 108 i).val ∧ Below w.heap.size w w' := by
  obtain ⟨x, hx⟩ : ∃ x : Nat, i.imm = x := ⟨i.imm.toNat, by omega⟩
  have h256 : x ≤ 256 := by omega
  obtain ⟨oo, oa, ob, oc, om⟩ := i
  simp only at hx h0
  subst hx
  clear h0
  simp only [Ins.cells]
  go_enter Tryd.func25, Tryd.ntmps25
  go_upto_region 1 with fail
  obtain ⟨W0, hW0⟩ : ∃ W0, (w.alloc (.cells #[.int .i64 oo, .int .i64 oa, .int .i64 ob, .int .i64 oc, .int .u64 (x : Int)] 35)).alloc (.cells #[.int .i64 0, .string ⟨#[]⟩, .int .u64 0, .int .i64 0, .int .i64 0] 58) = W0 := ⟨_, rfl⟩
  rw [hW0]
  have HI : Hid (Bk W0 w.heap.size 35 #[.int .i64 oo, .int .i64 oa, .int .i64 ob, .int .i64 oc, .int .u64 (x : Int)]) := by show Bk _ _ _ _; rw [← hW0]; exact (Bk.new w _ _).alloc _
  have HT : Hid (Bk W0 (w.heap.size + 1) 58 #[.int .i64 0, .string ⟨#[]⟩, .int .u64 0, .int .i64 0, .int .i64 0]) := by show Bk _ _ _ _; rw [← hW0]; exact a_bk_new2 _ _ _ _
  have HB : Hid (Below w.heap.size w W0) := by show Below _ _ _; rw [← hW0]; exact ((Below.refl _ _).alloc (Nat.le_refl _) _).alloc (by simp) _
  have htab0 : PowTab W0 := htab.below HB.out
  have HTab := Lib.hid htab0
  clear hW0 htab htab0
  have k0 : W0.cell? ⟨w.heap.size, 1, none⟩ = some (.int .i64 oa) := HI.out.cell 1
  have k1 : W0.cell? ⟨w.heap.size, 2, none⟩ = some (.int .i64 ob) := HI.out.cell 2
  have k2 : W0.cell? ⟨w.heap.size, 3, none⟩ = some (.int .i64 oc) := HI.out.cell 3
  have k3 : W0.cell? ⟨w.heap.size, 4, none⟩ = some (.int .u64 (x : Int)) := HI.out.cell 4
  go_wp2_with (
    go_at_call 23
    refine (label_any x (by omega) _ HTab.out).mono ?_
    rintro e w9 ⟨rfl, hb9⟩
    have HT9 := Lib.hid (HT.out.below hb9 HT.out.lt)
    have HB9 := Lib.hid (HB.out.trans (hb9.mono HB.out.size))
    have t0 : w9.cell? ⟨w.heap.size + 1, 0, none⟩ = some (.int .i64 0) := HT9.out.cell 0
    have s0 := HT9.out.frozen 0
    have t1 : w9.cell? ⟨w.heap.size + 1, 1, none⟩ = some (.string ⟨#[]⟩) := HT9.out.cell 1
    have s1 := HT9.out.frozen 1
    have t2 : w9.cell? ⟨w.heap.size + 1, 2, none⟩ = some (.int .u64 0) := HT9.out.cell 2
    have s2 := HT9.out.frozen 2
    have t3 : w9.cell? ⟨w.heap.size + 1, 3, none⟩ = some (.int .i64 0) := HT9.out.cell 3
    have s3 := HT9.out.frozen 3
    have t4 : w9.cell? ⟨w.heap.size + 1, 4, none⟩ = some (.int .i64 0) := HT9.out.cell 4
    have s4 := HT9.out.frozen 4
    clear hb9 k0 k1 k2 k3)
  (try simp only [Exit.inBlock, Exit.then])
  refine bodyPost_ret (v := .agg #[.int .i64 0, .string (labelP x), .int .u64 0, .int .i64 0, .int .i64 0]) ?_ rfl ⟨?_, ?_⟩
  · have hbk := a_five HT9.out (.int .i64 0) (.string (labelP x)) (.int .u64 0) (.int .i64 0) (.int .i64 0)
    exact res_token rfl _ _ (w.heap.size + 1) _ rfl rfl hbk
  · rfl
  · exact a_below_five HB9.out (by omega) _ _ _ _ _

set_option maxHeartbeats 4000000 in
theorem token_w (i : Ins) (c : Nat) (w : World) (htab : PowTab w) (hc : c ≠ 97 ∧ c ≠ 98 ∧ c ≠ 99 ∧ c ≠ 105 ∧ c ≠ 108) (hw : wordP c ≠ ⟨#[]⟩) :
    Calls Tryd.prog 25 #[.int .i32 c, .agg i.cells.toArray] w fun e w' => e = .returned (tokP c i).val ∧ Below w.heap.size w w' := by
  have n97 : ((c : Int) == 97) = false := beq_eq_false_iff_ne.2 (by omega)
  have n98 : ((c : Int) == 98) = false := beq_eq_false_iff_ne.2 (by omega)
  have n99 : ((c : Int) == 99) = false := beq_eq_false_iff_ne.2 (by omega)
  have n105 : ((c : Int) == 105) = false := beq_eq_false_iff_ne.2 (by omega)
  have n108 : ((c : Int) == 108) = false := beq_eq_false_iff_ne.2 (by omega)
  have HE : Hid (tokP c i = ⟨0, wordP c, 0, 0, 0⟩) := by show _ = _; unfold tokP; rw [if_neg hc.1, if_neg hc.2.1, if_neg hc.2.2.1, if_neg hc.2.2.2.1, if_neg hc.2.2.2.2, if_pos hw]
  obtain ⟨W, hW⟩ : ∃ W, wordP c = W := ⟨_, rfl⟩
  rw [hW] at hw HE
  have HW := Lib.hid hW
  have hwe : (W.toList == []) = false := by
    rw [beq_eq_false_iff_ne]
    intro e
    rw [ByteArray.toList_eq] at e
    exact hw (ByteArray.ext (Array.toList_inj.1 e))
  clear hc hw hW
  obtain ⟨oo, oa, ob, oc, om⟩ := i
  simp only [Ins.cells]
  go_enter Tryd.func25, Tryd.ntmps25
  go_upto_region 1 with fail
  obtain ⟨W0, hW0⟩ : ∃ W0, (w.alloc (.cells #[.int .i64 oo, .int .i64 oa, .int .i64 ob, .int .i64 oc, .int .u64 om] 35)).alloc (.cells #[.int .i64 0, .string ⟨#[]⟩, .int .u64 0, .int .i64 0, .int .i64 0] 58) = W0 := ⟨_, rfl⟩
  rw [hW0]
  have HI : Hid (Bk W0 w.heap.size 35 #[.int .i64 oo, .int .i64 oa, .int .i64 ob, .int .i64 oc, .int .u64 om]) := by show Bk _ _ _ _; rw [← hW0]; exact (Bk.new w _ _).alloc _
  have HT : Hid (Bk W0 (w.heap.size + 1) 58 #[.int .i64 0, .string ⟨#[]⟩, .int .u64 0, .int .i64 0, .int .i64 0]) := by show Bk _ _ _ _; rw [← hW0]; exact a_bk_new2 _ _ _ _
  have HB : Hid (Below w.heap.size w W0) := by show Below _ _ _; rw [← hW0]; exact ((Below.refl _ _).alloc (Nat.le_refl _) _).alloc (by simp) _
  have htab0 : PowTab W0 := htab.below HB.out
  have HTab := Lib.hid htab0
  clear hW0 htab htab0
  have k0 : W0.cell? ⟨w.heap.size, 1, none⟩ = some (.int .i64 oa) := HI.out.cell 1
  have k1 : W0.cell? ⟨w.heap.size, 2, none⟩ = some (.int .i64 ob) := HI.out.cell 2
  have k2 : W0.cell? ⟨w.heap.size, 3, none⟩ = some (.int .i64 oc) := HI.out.cell 3
  have k3 : W0.cell? ⟨w.heap.size, 4, none⟩ = some (.int .u64 om) := HI.out.cell 4
  have t0 : W0.cell? ⟨w.heap.size + 1, 0, none⟩ = some (.int .i64 0) := HT.out.cell 0
  have s0 := HT.out.frozen 0
  have t1 : W0.cell? ⟨w.heap.size + 1, 1, none⟩ = some (.string ⟨#[]⟩) := HT.out.cell 1
  have s1 := HT.out.frozen 1
  have t2 : W0.cell? ⟨w.heap.size + 1, 2, none⟩ = some (.int .u64 0) := HT.out.cell 2
  have s2 := HT.out.frozen 2
  have t3 : W0.cell? ⟨w.heap.size + 1, 3, none⟩ = some (.int .i64 0) := HT.out.cell 3
  have s3 := HT.out.frozen 3
  have t4 : W0.cell? ⟨w.heap.size + 1, 4, none⟩ = some (.int .i64 0) := HT.out.cell 4
  have s4 := HT.out.frozen 4
  go_wp2_with (go_at_call 49; refine (word_any _ _).mono ?_; rintro e w9 ⟨rfl, he9⟩; obtain rfl : W0 = w9 := he9.symm; rw [HW.out])
  (try simp only [Exit.inBlock, Exit.then])
  refine bodyPost_ret (v := .agg #[.int .i64 0, .string W, .int .u64 0, .int .i64 0, .int .i64 0]) ?_ rfl ⟨?_, ?_⟩
  · have hbk := a_five HT.out (.int .i64 0) (.string W) (.int .u64 0) (.int .i64 0) (.int .i64 0)
    exact res_token rfl _ _ (w.heap.size + 1) _ rfl rfl hbk
  · rw [HE.out]; rfl
  · exact a_below_five HB.out (by omega) _ _ _ _ _

set_option maxHeartbeats 4000000 in
theorem token_s (i : Ins) (c : Nat) (w : World) (htab : PowTab w) (hc : c ≠ 97 ∧ c ≠ 98 ∧ c ≠ 99 ∧ c ≠ 105 ∧ c ≠ 108) (hw : wordP c = ⟨#[]⟩) :
    Calls Tryd.prog 25 #[.int .i32 c, .agg i.cells.toArray] w fun e w' => e = .returned (tokP c i).val ∧ Below w.heap.size w w' := by
  have n97 : ((c : Int) == 97) = false := beq_eq_false_iff_ne.2 (by omega)
  have n98 : ((c : Int) == 98) = false := beq_eq_false_iff_ne.2 (by omega)
  have n99 : ((c : Int) == 99) = false := beq_eq_false_iff_ne.2 (by omega)
  have n105 : ((c : Int) == 105) = false := beq_eq_false_iff_ne.2 (by omega)
  have n108 : ((c : Int) == 108) = false := beq_eq_false_iff_ne.2 (by omega)
  have HE : Hid (tokP c i = ⟨2, Utf8.encode (c : Int), 0, 0, 0⟩) := by show _ = _; unfold tokP; rw [if_neg hc.1, if_neg hc.2.1, if_neg hc.2.2.1, if_neg hc.2.2.2.1, if_neg hc.2.2.2.2, if_neg (by simp [hw])]
  have HW := Lib.hid hw
  have hcv : ∀ Wd, (convert 21 9 (.int .i32 (c : Int))).run Tryd.prog Wd = .ok (.string (Utf8.encode (c : Int))) Wd := fun Wd => run_convert_int_string Wd _ _ _ _ (by kernel_rfl) Tryd.underlying9
  obtain ⟨E, hE⟩ : ∃ E, Utf8.encode (c : Int) = E := ⟨_, rfl⟩
  rw [hE] at hcv HE
  clear hc hw hE
  obtain ⟨oo, oa, ob, oc, om⟩ := i
  simp only [Ins.cells]
  go_enter Tryd.func25, Tryd.ntmps25
  go_upto_region 1 with fail
  obtain ⟨W0, hW0⟩ : ∃ W0, (w.alloc (.cells #[.int .i64 oo, .int .i64 oa, .int .i64 ob, .int .i64 oc, .int .u64 om] 35)).alloc (.cells #[.int .i64 0, .string ⟨#[]⟩, .int .u64 0, .int .i64 0, .int .i64 0] 58) = W0 := ⟨_, rfl⟩
  rw [hW0]
  have HI : Hid (Bk W0 w.heap.size 35 #[.int .i64 oo, .int .i64 oa, .int .i64 ob, .int .i64 oc, .int .u64 om]) := by show Bk _ _ _ _; rw [← hW0]; exact (Bk.new w _ _).alloc _
  have HT : Hid (Bk W0 (w.heap.size + 1) 58 #[.int .i64 0, .string ⟨#[]⟩, .int .u64 0, .int .i64 0, .int .i64 0]) := by show Bk _ _ _ _; rw [← hW0]; exact a_bk_new2 _ _ _ _
  have HB : Hid (Below w.heap.size w W0) := by show Below _ _ _; rw [← hW0]; exact ((Below.refl _ _).alloc (Nat.le_refl _) _).alloc (by simp) _
  have htab0 : PowTab W0 := htab.below HB.out
  have HTab := Lib.hid htab0
  clear hW0 htab htab0
  have k0 : W0.cell? ⟨w.heap.size, 1, none⟩ = some (.int .i64 oa) := HI.out.cell 1
  have k1 : W0.cell? ⟨w.heap.size, 2, none⟩ = some (.int .i64 ob) := HI.out.cell 2
  have k2 : W0.cell? ⟨w.heap.size, 3, none⟩ = some (.int .i64 oc) := HI.out.cell 3
  have k3 : W0.cell? ⟨w.heap.size, 4, none⟩ = some (.int .u64 om) := HI.out.cell 4
  have t0 : W0.cell? ⟨w.heap.size + 1, 0, none⟩ = some (.int .i64 0) := HT.out.cell 0
  have s0 := HT.out.frozen 0
  have t1 : W0.cell? ⟨w.heap.size + 1, 1, none⟩ = some (.string ⟨#[]⟩) := HT.out.cell 1
  have s1 := HT.out.frozen 1
  have t2 : W0.cell? ⟨w.heap.size + 1, 2, none⟩ = some (.int .u64 0) := HT.out.cell 2
  have s2 := HT.out.frozen 2
  have t3 : W0.cell? ⟨w.heap.size + 1, 3, none⟩ = some (.int .i64 0) := HT.out.cell 3
  have s3 := HT.out.frozen 3
  have t4 : W0.cell? ⟨w.heap.size + 1, 4, none⟩ = some (.int .i64 0) := HT.out.cell 4
  have s4 := HT.out.frozen 4
  go_wp2_with (go_at_call 49; refine (word_any _ _).mono ?_; rintro e w9 ⟨rfl, he9⟩; obtain rfl : W0 = w9 := he9.symm; rw [HW.out])
  (try simp only [Exit.inBlock, Exit.then])
  refine bodyPost_ret (v := .agg #[.int .i64 2, .string E, .int .u64 0, .int .i64 0, .int .i64 0]) ?_ rfl ⟨?_, ?_⟩
  · have hbk := a_five HT.out (.int .i64 2) (.string E) (.int .u64 0) (.int .i64 0) (.int .i64 0)
    exact res_token rfl _ _ (w.heap.size + 1) _ rfl rfl hbk
  · rw [HE.out]; rfl
  · exact a_below_five HB.out (by omega) _ _ _ _ _

theorem token_any (i : Ins) (c : Nat) (w : World) (htab : PowTab w) (ha : 0 ≤ i.a ∧ i.a < 16) (hb : 0 ≤ i.b ∧ i.b < 16) (hc : 0 ≤ i.c ∧ i.c < 16) (hl : c = 108 → 0 ≤ i.imm ∧ i.imm ≤ 256) :
    Calls Tryd.prog 25 #[.int .i32 c, .agg i.cells.toArray] w fun e w' => e = .returned (tokP c i).val ∧ Below w.heap.size w w' := by
  by_cases h : c = 97 ∨ c = 98 ∨ c = 99 ∨ c = 105 ∨ c = 108
  · rcases h with rfl | rfl | rfl | rfl | rfl
    · exact token_a i w htab ha
    · exact token_b i w htab hb
    · exact token_c i w htab hc
    · exact token_i i w htab
    · exact token_l i w htab (hl rfl)
  · have hn : c ≠ 97 ∧ c ≠ 98 ∧ c ≠ 99 ∧ c ≠ 105 ∧ c ≠ 108 := by omega
    by_cases hw : wordP c = ⟨#[]⟩
    · exact token_s i c w htab hn hw
    · exact token_w i c w htab hn hw
end Go.Proofs.YthdlihiehfkceaaDoor

namespace Go.Proofs.YthdlihiehfkceaaDoor
open Go.RowKit

/-- The kinds' names, in order. -/
def kindNames : List ByteArray := [⟨#[115, 101, 116]⟩, ⟨#[109, 111, 118, 101]⟩, ⟨#[112, 108, 117, 115]⟩, ⟨#[109, 105, 110, 117, 115]⟩, ⟨#[116, 105, 109, 101, 115]⟩, ⟨#[109, 111, 100, 117, 108, 111]⟩, ⟨#[101, 113, 117, 97, 108]⟩, ⟨#[108, 101, 115, 115]⟩, ⟨#[97, 114, 103]⟩, ⟨#[114, 111, 111, 116]⟩, ⟨#[112, 117, 116, 114, 111, 111, 116]⟩, ⟨#[114, 101, 97, 100]⟩, ⟨#[114, 101, 97, 100, 97, 116]⟩, ⟨#[119, 114, 105, 116, 101]⟩, ⟨#[119, 114, 105, 116, 101, 97, 116]⟩, ⟨#[110, 101, 119]⟩, ⟨#[102, 114, 101, 101]⟩, ⟨#[103, 111]⟩, ⟨#[122, 101, 114, 111]⟩, ⟨#[98, 97, 99, 107]⟩, ⟨#[114, 101, 116, 117, 114, 110]⟩, ⟨#[97, 98, 111, 114, 116]⟩]
/-- The kinds' fields, in order: a, b, c, i. -/
def kindForms : List ByteArray := [⟨#[97, 105]⟩, ⟨#[97, 98]⟩, ⟨#[97, 98, 99]⟩, ⟨#[97, 98, 99]⟩, ⟨#[97, 98, 99]⟩, ⟨#[97, 98, 99]⟩, ⟨#[97, 98, 99]⟩, ⟨#[97, 98, 99]⟩, ⟨#[97, 105]⟩, ⟨#[97, 98]⟩, ⟨#[97, 98]⟩, ⟨#[97, 98, 105]⟩, ⟨#[97, 98, 99]⟩, ⟨#[97, 98, 105]⟩, ⟨#[97, 98, 99]⟩, ⟨#[97]⟩, ⟨#[97]⟩, ⟨#[105]⟩, ⟨#[97, 105]⟩, ⟨#[97, 105]⟩, ⟨#[97]⟩, ⟨#[105]⟩]
def nameOf (n : Int) : ByteArray := if 0 ≤ n ∧ n < 22 then kindNames.getD n.toNat ⟨#[]⟩ else ⟨#[]⟩
def fieldsOf (n : Int) : ByteArray := if 0 ≤ n ∧ n < 22 then kindForms.getD n.toNat ⟨#[]⟩ else ⟨#[]⟩

theorem nameOf_out {n : Int} (h : ¬ (0 ≤ n ∧ n < 22)) : nameOf n = ⟨#[]⟩ := by unfold nameOf; rw [if_neg h]
theorem fieldsOf_out {n : Int} (h : ¬ (0 ≤ n ∧ n < 22)) : fieldsOf n = ⟨#[]⟩ := by unfold fieldsOf; rw [if_neg h]

/-- How many registers a kind has; has it a number? -/
def regsOf (n : Int) : Int :=
  if (2 ≤ n ∧ n ≤ 7) ∨ n = 12 ∨ n = 14 then 3 else if n = 1 ∨ (9 ≤ n ∧ n ≤ 11) ∨ n = 13 then 2
  else if n = 17 ∨ n = 21 ∨ n < 0 ∨ 21 < n then 0 else 1
def immOf (n : Int) : Bool := decide (n = 0 ∨ n = 8 ∨ n = 11 ∨ n = 13 ∨ (17 ≤ n ∧ n ≤ 19) ∨ n = 21)
def fieldB (r : Int) (u : Bool) : Bool := decide (r = 0) || (u && decide (0 < r ∧ r < 16))
def plainB (n a b c m : Int) : Bool :=
  decide (0 ≤ n ∧ n ≤ 21) && fieldB a (decide (0 < regsOf n)) && fieldB b (decide (1 < regsOf n)) && fieldB c (decide (2 < regsOf n)) && (immOf n || decide (m = 0))
end Go.Proofs.YthdlihiehfkceaaDoor

namespace Go.Proofs.YthdlihiehfkceaaDoor
open Go.RowKit

theorem other_any (n : Int) (w : World) (h : ¬ (0 ≤ n ∧ n ≤ 10)) :
    Calls Tryd.prog 91 #[.int .i64 n] w fun e w' => e = .returned (.tuple #[.string (nameOf n), .string (fieldsOf n)]) ∧ w = w' := by
  by_cases hn : 11 ≤ n ∧ n ≤ 21
  · obtain ⟨h1, h2⟩ := hn
    obtain rfl | rfl | rfl | rfl | rfl | rfl | rfl | rfl | rfl | rfl | rfl : n = 11 ∨ n = 12 ∨ n = 13 ∨ n = 14 ∨ n = 15 ∨ n = 16 ∨ n = 17 ∨ n = 18 ∨ n = 19 ∨ n = 20 ∨ n = 21 := by omega
    all_goals
      clear h
      go_enter Tryd.func91, Tryd.ntmps91
      go_wp2
      go_ret2
      exact ⟨rfl, rfl⟩
  · rw [nameOf_out (by omega), fieldsOf_out (by omega)]
    have e : ∀ k : Int, 11 ≤ k → k ≤ 21 → (n == k) = false := fun k h1 h2 => beq_eq_false_iff_ne.2 (by omega)
    have e11 := e 11 (by omega) (by omega)
    have e12 := e 12 (by omega) (by omega)
    have e13 := e 13 (by omega) (by omega)
    have e14 := e 14 (by omega) (by omega)
    have e15 := e 15 (by omega) (by omega)
    have e16 := e 16 (by omega) (by omega)
    have e17 := e 17 (by omega) (by omega)
    have e18 := e 18 (by omega) (by omega)
    have e19 := e 19 (by omega) (by omega)
    have e20 := e 20 (by omega) (by omega)
    have e21 := e 21 (by omega) (by omega)
    clear e hn h
    go_enter Tryd.func91, Tryd.ntmps91
    go_wp2
    go_ret2
    exact ⟨rfl, rfl⟩

theorem form_any (n : Int) (w : World) :
    Calls Tryd.prog 81 #[.int .i64 n] w fun e w' => e = .returned (.tuple #[.string (nameOf n), .string (fieldsOf n)]) ∧ w = w' := by
  by_cases hn : 0 ≤ n ∧ n ≤ 10
  · obtain ⟨h1, h2⟩ := hn
    obtain rfl | rfl | rfl | rfl | rfl | rfl | rfl | rfl | rfl | rfl | rfl : n = 0 ∨ n = 1 ∨ n = 2 ∨ n = 3 ∨ n = 4 ∨ n = 5 ∨ n = 6 ∨ n = 7 ∨ n = 8 ∨ n = 9 ∨ n = 10 := by omega
    all_goals
      go_enter Tryd.func81, Tryd.ntmps81
      go_wp2
      go_ret2
      exact ⟨rfl, rfl⟩
  · have e : ∀ k : Int, 0 ≤ k → k ≤ 10 → (n == k) = false := fun k h1 h2 => beq_eq_false_iff_ne.2 (by omega)
    have e0 := e 0 (by omega) (by omega)
    have e1 := e 1 (by omega) (by omega)
    have e2 := e 2 (by omega) (by omega)
    have e3 := e 3 (by omega) (by omega)
    have e4 := e 4 (by omega) (by omega)
    have e5 := e 5 (by omega) (by omega)
    have e6 := e 6 (by omega) (by omega)
    have e7 := e 7 (by omega) (by omega)
    have e8 := e 8 (by omega) (by omega)
    have e9 := e 9 (by omega) (by omega)
    have e10 := e 10 (by omega) (by omega)
    have H := other_any n w hn
    have H := Lib.hid H
    clear e hn
    go_enter Tryd.func81, Tryd.ntmps81
    go_wp2_with (go_at_call 91; refine H.out.mono ?_; rintro e w' ⟨rfl, rfl⟩)
    go_ret2
    exact ⟨rfl, rfl⟩

theorem name_any (n : Int) (w : World) :
    Calls Tryd.prog 65 #[.int .i64 n] w fun e w' => e = .returned (.string (nameOf n)) ∧ w = w' := by
  go_enter Tryd.func65, Tryd.ntmps65
  go_wp2_with (go_at_call 81; refine (form_any _ _).mono ?_; rintro e w' ⟨rfl, rfl⟩)
  go_ret
  exact ⟨rfl, rfl⟩

theorem field_any (r : Int) (u : Bool) (w : World) :
    Calls Tryd.prog 66 #[.int .i64 r, .bool u] w fun e w' => e = .returned (.bool (fieldB r u)) ∧ w = w' := by
  go_enter Tryd.func66, Tryd.ntmps66
  go_wp2
  all_goals go_ret
  all_goals refine ⟨ret_bool ?_, rfl⟩
  all_goals (cases u <;> rw [Bool.eq_iff_iff] <;> simp_all [fieldB] <;> omega)
end Go.Proofs.YthdlihiehfkceaaDoor

namespace Go.Proofs.YthdlihiehfkceaaDoor
open Go.RowKit

def hasL (l : List UInt8) (c : UInt8) : Bool := l.any (· == c)
def othL (l : List UInt8) : Bool := l.any fun c => !(c == 97) && !(c == 98) && !(c == 99)
theorem take_snoc (s : ByteArray) (k : Nat) (h : k < s.size) : s.data.toList.take (k + 1) = s.data.toList.take k ++ [s[k]] := by
  rw [List.take_succ_eq_append_getElem (by simpa using h)]; rfl
theorem hasL_snoc (l : List UInt8) (d c : UInt8) : hasL (l ++ [d]) c = (hasL l c || d == c) := by simp [hasL]
theorem othL_snoc (l : List UInt8) (d : UInt8) : othL (l ++ [d]) = (othL l || (!(d == 97) && !(d == 98) && !(d == 99))) := by simp [othL]
theorem byte_eq (d : UInt8) (k : Nat) (hk : k < 256) : (((d.toNat : Int)) == (k : Int)) = (d == UInt8.ofNat k) := by
  rw [Bool.eq_iff_iff]; simp only [beq_iff_eq]
  constructor
  · intro h
    have h2 : d.toNat = k := by omega
    rw [← h2]; simp
  · intro h
    rw [h]; simp; omega

theorem uses_str (n : Int) (w : World) (s : ByteArray) (hs : fieldsOf n = s) (ha : ∀ i, (h : i < s.size) → (s[i]'h).toNat < 128) :
    Calls Tryd.prog 64 #[.int .i64 n] w fun e w' => e = .returned (.tuple #[.bool (hasL s.data.toList 97), .bool (hasL s.data.toList 98), .bool (hasL s.data.toList 99), .bool (othL s.data.toList)]) ∧ Below w.heap.size w w' := by
  have H := form_any n w
  rw [hs] at H
  clear hs
  have H := Lib.hid H
  have HA := Lib.hid ha
  clear ha
  go_enter Tryd.func64, Tryd.ntmps64
  go_wp2_with (go_at_call 81; refine H.out.mono ?_; rintro e w' ⟨rfl, rfl⟩)
  go_loopw [2, 3, 4, 5] (fun a b c i wr => ∃ p : Nat, p ≤ s.size ∧ wr = w.iter s p ∧ a = .bool (hasL (s.data.toList.take p) 97) ∧ b = .bool (hasL (s.data.toList.take p) 98) ∧ c = .bool (hasL (s.data.toList.take p) 99) ∧ i = .bool (othL (s.data.toList.take p))) (fun _ _ _ _ wr => s.size - wr.iterPos w.heap.size)
  case atStart => exact ⟨0, Nat.zero_le _, rfl, rfl, rfl, rfl, rfl⟩
  case round =>
    obtain ⟨p, hp, rfl, rfl, rfl, rfl, rfl⟩ := hrel
    by_cases hlt : p < s.size
    · have n0 := fun ty => run_next_ascii (P := Tryd.prog) w s p ty hlt (HA.out p hlt)
      have T := Lib.hid (take_snoc s p hlt)
      generalize hc : s[p]'hlt = c at n0 T
      clear hc
      have e97 := byte_eq c 97 (by omega)
      have e98 := byte_eq c 98 (by omega)
      have e99 := byte_eq c 99 (by omega)
      by_cases h97 : c = 97
      · subst h97
        clear e97 e98 e99
        go_wp2
        go_roundw
        case rel => exact ⟨p + 1, by omega, rfl, by rw [T.out, hasL_snoc]; simp, by rw [T.out, hasL_snoc]; simp, by rw [T.out, hasL_snoc]; simp, by rw [T.out, othL_snoc]; simp⟩
        case measure => simp; omega
      · by_cases h98 : c = 98
        · subst h98
          clear e97 e98 e99 h97
          go_wp2
          go_roundw
          case rel => exact ⟨p + 1, by omega, rfl, by rw [T.out, hasL_snoc]; simp, by rw [T.out, hasL_snoc]; simp, by rw [T.out, hasL_snoc]; simp, by rw [T.out, othL_snoc]; simp⟩
          case measure => simp; omega
        · by_cases h99 : c = 99
          · subst h99
            clear e97 e98 e99 h97 h98
            go_wp2
            go_roundw
            case rel => exact ⟨p + 1, by omega, rfl, by rw [T.out, hasL_snoc]; simp, by rw [T.out, hasL_snoc]; simp, by rw [T.out, hasL_snoc]; simp, by rw [T.out, othL_snoc]; simp⟩
            case measure => simp; omega
          · have f97 : ((c.toNat : Int) == 97) = false := e97.trans (beq_eq_false_iff_ne.2 h97)
            have f98 : ((c.toNat : Int) == 98) = false := e98.trans (beq_eq_false_iff_ne.2 h98)
            have f99 : ((c.toNat : Int) == 99) = false := e99.trans (beq_eq_false_iff_ne.2 h99)
            clear e97 e98 e99
            have H97 := Lib.hid h97
            have H98 := Lib.hid h98
            have H99 := Lib.hid h99
            clear h97 h98 h99
            go_wp2
            go_roundw
            case rel => exact ⟨p + 1, by omega, rfl, by rw [T.out, hasL_snoc]; simp [H97.out], by rw [T.out, hasL_snoc]; simp [H98.out], by rw [T.out, hasL_snoc]; simp [H99.out], by rw [T.out, othL_snoc]; simp [H97.out, H98.out, H99.out]⟩
            case measure => simp; omega
    · have n0 := fun ty => run_next_end (P := Tryd.prog) w s p ty hlt
      go_wp2
      obtain rfl : p = s.size := by omega
      have ht : s.data.toList.take s.size = s.data.toList := List.take_of_length_le (by simp)
      refine bodyPost_ret (results_tmp4 rfl _ _ _) rfl ?_
      refine ⟨?_, (Below.refl _ _).alloc (Nat.le_refl _) _⟩
      simp [ht]
theorem uses_any (n : Int) (w : World) :
    Calls Tryd.prog 64 #[.int .i64 n] w fun e w' => e = .returned (.tuple #[.bool (decide (0 < regsOf n)), .bool (decide (1 < regsOf n)), .bool (decide (2 < regsOf n)), .bool (immOf n)]) ∧ Below w.heap.size w w' := by
  by_cases hn : 0 ≤ n ∧ n ≤ 21
  · obtain ⟨h1, h2⟩ := hn
    obtain rfl | rfl | rfl | rfl | rfl | rfl | rfl | rfl | rfl | rfl | rfl | rfl | rfl | rfl | rfl | rfl | rfl | rfl | rfl | rfl | rfl | rfl : n = 0 ∨ n = 1 ∨ n = 2 ∨ n = 3 ∨ n = 4 ∨ n = 5 ∨ n = 6 ∨ n = 7 ∨ n = 8 ∨ n = 9 ∨ n = 10 ∨ n = 11 ∨ n = 12 ∨ n = 13 ∨ n = 14 ∨ n = 15 ∨ n = 16 ∨ n = 17 ∨ n = 18 ∨ n = 19 ∨ n = 20 ∨ n = 21 := by omega
    all_goals exact uses_str _ w _ rfl (by decide)
  · have h := uses_str n w ⟨#[]⟩ (fieldsOf_out (by omega)) (by decide)
    have e1 : regsOf n = 0 := by unfold regsOf; rw [if_neg (by omega), if_neg (by omega), if_pos (by omega)]
    have e2 : immOf n = false := by unfold immOf; exact decide_eq_false (by omega)
    rw [e1, e2]
    exact h
end Go.Proofs.YthdlihiehfkceaaDoor

namespace Go.Proofs.YthdlihiehfkceaaDoor
open Go.RowKit

theorem nameOf_ne (n : Int) (h : 0 ≤ n ∧ n ≤ 21) : (nameOf n).toList.isEmpty = false := by
  obtain ⟨h1, h2⟩ := h
  obtain rfl | rfl | rfl | rfl | rfl | rfl | rfl | rfl | rfl | rfl | rfl | rfl | rfl | rfl | rfl | rfl | rfl | rfl | rfl | rfl | rfl | rfl : n = 0 ∨ n = 1 ∨ n = 2 ∨ n = 3 ∨ n = 4 ∨ n = 5 ∨ n = 6 ∨ n = 7 ∨ n = 8 ∨ n = 9 ∨ n = 10 ∨ n = 11 ∨ n = 12 ∨ n = 13 ∨ n = 14 ∨ n = 15 ∨ n = 16 ∨ n = 17 ∨ n = 18 ∨ n = 19 ∨ n = 20 ∨ n = 21 := by omega
  all_goals decide +kernel

theorem plain_any (n a b c m : Int) (w : World) :
    Calls Tryd.prog 43 #[.agg #[.int .i64 n, .int .i64 a, .int .i64 b, .int .i64 c, .int .u64 m]] w fun e w' => e = .returned (.bool (plainB n a b c m)) ∧ Below w.heap.size w w' := by
  go_enter Tryd.func43, Tryd.ntmps43
  go_wp2_with fail
  refine (uses_any _ _).mono ?_
  rintro e w1 ⟨rfl, hb⟩
  obtain ⟨hc, hf⟩ := bcell hb
  have hz : w.heap.size < w1.heap.size := by have := hb.size; simp at this; omega
  have HB := Lib.hid hb
  clear hb
  go_wp2_with fail
  refine (name_any _ _).mono ?_
  rintro e w2 ⟨rfl, rfl⟩
  by_cases hn : 0 ≤ n ∧ n ≤ 21
  · have h1 := nameOf_ne n hn
    have h2 : ¬ (nameOf n).toList = [] := by intro h; rw [h] at h1; simp at h1
    cases hA : fieldB a (decide (0 < regsOf n))
    · have e1 : plainB n a b c m = false := by simp [plainB, hA]
      have E := Lib.hid e1
      clear e1
      go_wp2_with fail
      refine (field_any _ _ _).mono ?_
      rintro e w2 ⟨rfl, rfl⟩
      go_wp2
      go_ret
      exact ⟨ret_bool E.out.symm, ((Below.refl _ _).alloc (Nat.le_refl _) _).trans (HB.out.mono (by simp))⟩
    · cases hB : fieldB b (decide (1 < regsOf n))
      · have e1 : plainB n a b c m = false := by simp [plainB, hB]
        have E := Lib.hid e1
        clear e1
        go_wp2_with fail
        refine (field_any _ _ _).mono ?_
        rintro e w2 ⟨rfl, rfl⟩
        go_wp2_with fail
        refine (field_any _ _ _).mono ?_
        rintro e w2 ⟨rfl, rfl⟩
        go_wp2
        go_ret
        exact ⟨ret_bool E.out.symm, ((Below.refl _ _).alloc (Nat.le_refl _) _).trans (HB.out.mono (by simp))⟩
      · cases hC : fieldB c (decide (2 < regsOf n))
        · have e1 : plainB n a b c m = false := by simp [plainB, hC]
          have E := Lib.hid e1
          clear e1
          go_wp2_with fail
          refine (field_any _ _ _).mono ?_
          rintro e w2 ⟨rfl, rfl⟩
          go_wp2_with fail
          refine (field_any _ _ _).mono ?_
          rintro e w2 ⟨rfl, rfl⟩
          go_wp2_with fail
          refine (field_any _ _ _).mono ?_
          rintro e w2 ⟨rfl, rfl⟩
          go_wp2
          go_ret
          exact ⟨ret_bool E.out.symm, ((Below.refl _ _).alloc (Nat.le_refl _) _).trans (HB.out.mono (by simp))⟩
        · have e1 : plainB n a b c m = (immOf n || decide (m = 0)) := by simp [plainB, hA, hB, hC, hn]
          have E := Lib.hid e1
          clear e1
          cases hI : immOf n
          all_goals
            go_wp2_with fail
            refine (field_any _ _ _).mono ?_
            rintro e w2 ⟨rfl, rfl⟩
            go_wp2_with fail
            refine (field_any _ _ _).mono ?_
            rintro e w2 ⟨rfl, rfl⟩
            go_wp2_with fail
            refine (field_any _ _ _).mono ?_
            rintro e w2 ⟨rfl, rfl⟩
            go_wp2
            go_ret
          · exact ⟨ret_bool (by rw [E.out, hI]; rfl), ((Below.refl _ _).alloc (Nat.le_refl _) _).trans (HB.out.mono (by simp))⟩
          · exact ⟨ret_bool (by rw [E.out, hI]; rfl), ((Below.refl _ _).alloc (Nat.le_refl _) _).trans (HB.out.mono (by simp))⟩
  · rw [nameOf_out (by omega)]
    have e1 : plainB n a b c m = false := by simp [plainB]; omega
    have E := Lib.hid e1
    clear e1
    go_wp2
    go_ret
    exact ⟨ret_bool E.out.symm, ((Below.refl _ _).alloc (Nat.le_refl _) _).trans (HB.out.mono (by simp))⟩

/-- The first kind that bears a name. -/
def ofFind (s : ByteArray) : Option Nat := (List.range 22).find? fun k => (nameOf k).toList == s.toList
theorem ofFind_none {s : ByteArray} (h : ∀ j : Nat, j < 22 → ((nameOf j).toList == s.toList) = false) : ofFind s = none := by
  unfold ofFind
  rw [List.find?_eq_none]
  intro x hx
  have := h x (by simpa using hx)
  simp [this]
theorem ofFind_some {s : ByteArray} {k : Nat} (hk : k < 22) (h : ∀ j : Nat, j < k → ((nameOf j).toList == s.toList) = false) (ht : ((nameOf k).toList == s.toList) = true) : ofFind s = some k := by
  unfold ofFind
  rw [List.find?_range_eq_some]
  exact ⟨ht, by simpa using hk, fun j hj => by simp [h j hj]⟩

end Go.Proofs.YthdlihiehfkceaaDoor
