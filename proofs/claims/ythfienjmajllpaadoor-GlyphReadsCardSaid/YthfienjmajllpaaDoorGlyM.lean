/-
  Chapter 2: how many lines there are: contract of tumblerlaw02.lines.
-/
import Derived.Test.YthfienjmajllpaaDoorGlyL
namespace Go.Proofs.YthfienjmajllpaaDoor
open Go.RowKit
set_option linter.unusedVariables false
attribute [local go_sem] Oper.semAt_some

theorem linesv_in (F : Fence) (nn : Nat) (hF : F.fn 27) (hro : F.round = none) (A : Option Addr) (n c : Nat) (w : World) :
    CallsIn F nn Tryd.prog 27 #[.slice A n c] w fun e w' => e = .returned (.func (.func 39) #[] #[.pointer (some ⟨w.heap.size, 0, none⟩)]) ∧ w' = w.alloc (.cells #[.slice A n c] 22) := by
  refine callsIn_of_wp Tryd.func27 rfl hF ?_ hro
  simp only [Tryd.ntmps27, List.size_toArray, List.length_cons, List.length_nil, Nat.reduceAdd, Nat.reduceSub, Array.replicate_succ, Array.replicate_zero, List.push_toArray, List.append_toArray, List.nil_append, List.cons_append]
  gi_wp2
  go_ret
  exact ⟨rfl, rfl⟩
theorem lines_stops (F : Fence) (nn : Nat) (hF : F.fn 39) (hro : F.round = none) (hn : 1 ≤ nn) (Bn n₀ : Nat) (l : List Tok) (A : Option Addr) (n c : Nat) (w : World)
    (hn0 : n₀ ≤ w.heap.size) (hBn0 : Bn < w.heap.size) (hc : w.cell? ⟨Bn, 0, none⟩ = some (.slice A n c)) (hL : RdT w n₀ A n l) (h48 : n ≤ 1000000) :
    SeqStopsK F nn Tryd.prog 39 #[.pointer (some ⟨Bn, 0, none⟩)] slEnc (Below n₀) (fun ys => ys.length = (linesP l).length) (fun pre => pre.length ≤ (linesP l).length) (linesP l).length w := fun lp J Jx W hW hJ _ hY h0 =>
  lines1_in F nn hF hro hn lp Bn n₀ l A n c J Jx W hJ hY (Nat.le_trans hn0 hW.size) ((hW.cell (p := ⟨Bn, 0, none⟩) hBn0).trans hc) (hL.below (hW.mono hn0)) h48 h0

/-- How many lines are kept. -/
def keptLines (l : List Tok) (most : Int) : Int := if most ≤ 0 then 0 else min most (linesP l).length
def LinesPost (l : List Tok) (most : Int) (w : World) (e : Ending) (w' : World) : Prop := ∃ A' m c', e = .returned (.slice A' m c') ∧ (m : Int) = keptLines l most ∧ Below w.heap.size w w'
theorem info_slT : (Tryd.prog.info? 22).map (fun i => (i.zero, i.size, i.bytes)) = some (some (.slice none 0 0), 1, 24) := by kernel_rfl

set_option maxRecDepth 100000 in
set_option maxHeartbeats 4000000 in
theorem lines_in (F : Fence) (nn : Nat) (h18 : F.fn 18) (h27 : F.fn 27) (h39 : F.fn 39) (hro : F.round = none) (hn : 3 ≤ nn) (l : List Tok) (A : Option Addr) (n c : Nat) (most : Int) (w : World) (hL : RdT w w.heap.size A n l) (h48 : n ≤ 1000000) (hlen : (linesP l).length ≤ 1000001) (hmost : -9223372036854775808 ≤ most ∧ most ≤ 9223372036854775807) :
    CallsIn F nn Tryd.prog 18 #[.slice A n c, .int .i64 most] w (LinesPost l most w) := by
  have h1 : 1 ≤ nn := by omega
  obtain ⟨i0, hi, hz0, hz1, hz2⟩ := info_parts info_slT
  refine callsIn_of_wp_marks Tryd.func18 rfl h18 ?_ hro
  simp only [Tryd.ntmps18, List.size_toArray, List.length_cons, List.length_nil, Nat.reduceAdd, Nat.reduceSub, Array.replicate_succ, Array.replicate_zero, List.push_toArray, List.append_toArray, List.nil_append, List.cons_append]
  by_cases hm : most ≤ 0
  · gi_wp2
    refine ⟨.slice (some ⟨w.heap.size + 1 + 1, 0, none⟩) 0 0, by simp [results, Tryd.results18, go_sem], ⟨some ⟨w.heap.size + 1 + 1, 0, none⟩, 0, 0, rfl, by rw [keptLines, if_pos hm]; rfl, ?_⟩⟩
    exact ((((Below.refl _ _).alloc (Nat.le_refl _) _).alloc (by simp) _).alloc (by simp; omega) _).alloc (by simp; omega) _
  · have hm' : 0 < most := by omega
    gi_wp2_with (gi_at_call 27; refine (linesv_in F (nn - 1) h27 hro _ _ _ _).mono ?_; rintro e w' ⟨rfl, rfl⟩)
    obtain ⟨W0, hW0⟩ : ∃ W0, (((((w.alloc (.cells #[.int .i64 most] 3)).alloc (.cells #[.slice none 0 0] 45)).alloc (.cells #[] 22)).alloc (.cells #[.slice (some ⟨w.heap.size + 1 + 1, 0, none⟩) 0 0] 45)).alloc (.cells #[.slice A n c] 22)) = W0 := ⟨_, rfl⟩
    have q3 : Boxed W0 (w.heap.size) 3 (.int .i64 most) := by rw [← hW0]; exact ((((Boxed.new w 3 _).alloc _).alloc _).alloc _).alloc _
    have q4 : Boxed W0 (w.heap.size + 1) 45 (.slice none 0 0) := by
      rw [← hW0]
      have h := Boxed.new (w.alloc (.cells #[.int .i64 most] 3)) 45 (.slice none 0 0)
      simp only [World.size_alloc] at h
      exact ((h.alloc _).alloc _).alloc _
    have q5 : Boxed W0 (w.heap.size + 1 + 1 + 1) 45 (.slice (some ⟨w.heap.size + 1 + 1, 0, none⟩) 0 0) := by
      rw [← hW0]
      have h := Boxed.new (((w.alloc (.cells #[.int .i64 most] 3)).alloc (.cells #[.slice none 0 0] 45)).alloc (.cells #[] 22)) 45 (.slice (some ⟨w.heap.size + 1 + 1, 0, none⟩) 0 0)
      simp only [World.size_alloc] at h
      exact h.alloc _
    have q6 : Boxed W0 (w.heap.size + 1 + 1 + 1 + 1) 22 (.slice A n c) := by
      rw [← hW0]
      have h := Boxed.new ((((w.alloc (.cells #[.int .i64 most] 3)).alloc (.cells #[.slice none 0 0] 45)).alloc (.cells #[] 22)).alloc (.cells #[.slice (some ⟨w.heap.size + 1 + 1, 0, none⟩) 0 0] 45)) 22 (.slice A n c)
      simp only [World.size_alloc] at h
      exact h
    have qo : W0.ownsRow w.heap.size 22 1 (.slice (some ⟨w.heap.size + 1 + 1, 0, none⟩) 0 0) 0 [] := by
      rw [← hW0]
      have h := World.ownsRow_made (e := 22) (size := 1) ((w.alloc (.cells #[.int .i64 most] 3)).alloc (.cells #[.slice none 0 0] 45)) #[] (base := w.heap.size) 0 (by simp; omega) (by simp [maxLen]) (by simp)
      simp only [World.size_alloc] at h
      exact (h.alloc _).alloc _
    have hB0 : Below w.heap.size w W0 := by
      rw [← hW0]
      exact (((((Below.refl _ _).alloc (Nat.le_refl _) _).alloc (by simp) _).alloc (by simp; omega) _).alloc (by simp; omega) _).alloc (by simp; omega) _
    have hs0 : W0.heap.size = w.heap.size + 1 + 1 + 1 + 1 + 1 := by rw [← hW0]; simp
    rw [hW0]
    clear hW0
    refine wpIn_rangeFunc_ownG hro h1 (gf := 39) (lb := #[.pointer (some ⟨w.heap.size + 1 + 1 + 1 + 1, 0, none⟩)]) rfl h39 (enters_of Tryd.func39 (by kernel_rfl) rfl)
      (lines_stops F (nn - 1) h39 hro (by omega) (w.heap.size + 1 + 1 + 1 + 1) w.heap.size l A n c W0 (by omega) (by omega) q6.cell (hL.below hB0) h48) belowK_t (belowK_b (by omega)) (Below.refl _ _) (fun _ => rfl)
      (fun pre W => ((∃ v, Boxed W (w.heap.size + 1 + 1 + 1) 45 v ∧ W.ownsRow w.heap.size 22 1 v pre.length (pre.map (·.1)) ∧ True) ∧ Boxed W (w.heap.size) 3 (.int .i64 most)) ∧ (Boxed W (w.heap.size + 1) 45 (.slice none 0 0) ∧ (Below w.heap.size w W ∧ (pre.length : Int) < most)))
      (fun cc pre W => (cc = .ret ∧ ∃ A' c', Boxed W (w.heap.size + 1) 45 (.slice A' pre.length c')) ∧ (Below w.heap.size w W ∧ (pre.length : Int) = most))
      (OwnFrom.and (OwnFrom.and (Own.from (holdsRow_own w.heap.size (w.heap.size + 1 + 1 + 1) 45 22 1 (fun pre : List SlV => pre.length) (fun pre : List SlV => pre.map (·.1)) (fun _ _ => True)) _) (Own.from (boxed_own _ _ (fun _ => .int .i64 most)) _)) (OwnFrom.and (Own.from (boxed_own _ _ (fun _ => .slice none 0 0)) _) (OwnFrom.and (ownFrom_below (Nat.le_refl _) (by omega)) (ownFrom_pure _ _))))
      (fun cc => ?hIx)
      ⟨⟨⟨_, q5, qo, trivial⟩, q3⟩, q4, hB0, by simpa using hm'⟩
      (fun x => { tmps := #[.slice A n c, .int .i64 most, undef, .pointer (some ⟨w.heap.size, 0, none⟩), .pointer (some ⟨w.heap.size + 1, 0, none⟩), .pointer (some ⟨w.heap.size + 1 + 1 + 1, 0, none⟩), x.1, .slice (some ⟨w.heap.size + 1 + 1, 0, none⟩) 0 0, .int .i64 most, .bool false, undef, .slice A n c, .func (.func 39) #[] #[.pointer (some ⟨w.heap.size + 1 + 1 + 1 + 1, 0, none⟩)], x.1, undef, undef, undef, undef, undef, undef, undef, undef, undef, undef], defers := [] }) ?assign ?body ?done ?stop
    case hIx =>
      rintro s X Y row ⟨⟨rfl, A', c', hb⟩, hbl, hp⟩ hg hr
      exact ⟨⟨rfl, A', c', boxed_own (β := Unit) _ _ (fun _ => .slice A' s.length c') () X Y row hb hg (fun r e => (hr r e).2)⟩, ownFrom_below (β := Unit) (Nat.le_refl _) (by omega) () X Y row hbl hg hr, hp⟩
    case assign =>
      intro lp x W K hK
      simp only [slEnc]
      gi_wp2
      exact hK
    case body =>
      rintro lp pre ⟨_, A1, n1, c1, rfl⟩ W ⟨⟨⟨v, hv, hrow, _⟩, hm3⟩, h4, hB, hlt⟩ hlen'
      have hc := hv.cell
      have hsz := hB.size
      have hb3 := hv.lt
      have hpl : pre.length ≤ 1000001 := by omega
      have HV := Lib.hid hv
      have HRow := Lib.hid hrow
      have HB := Lib.hid hB
      have H3 := Lib.hid hm3
      have H4 := Lib.hid h4
      clear hv hrow hB hm3 h4
      gi_wp2_with (gi_at_builtin; refine wpListIn_append_own _ rfl (.tmp 14) (.tmp 16) 45 rfl w.heap.size 22 i0 (.slice none 0 0) 1 24 Tryd.underlying45 hi hz0 hz1 hz2 rfl (by decide) _ pre.length (pre.map (·.1)) rfl ?c1 ⟨W.heap.size, 0, none⟩ 1 1 [.slice A1 n1 c1] ?c2 ?c3 ?c4 ?c5 ?c6 ?c7 ?c8 ?_)
      case c1 => exact HRow.out.alloc _
      case c3 => rfl
      case c4 => intro j u hu; rcases j with _ | j <;> simp at hu; subst hu; simp [Addr.add]
      case c5 => intro u hu; simp at hu; subst hu; rfl
      case c6 => simp only [maxLen]; omega
      case c7 => omega
      case c8 => simp; omega
      intro v' w1 hown' hgrow _
      obtain ⟨g', cap', rfl⟩ := ownsRow_succ hown'
      obtain ⟨hv1, hv2, hr2, hk2, hb2⟩ := HV.out.appended (by decide) HRow.out HB.out.size (by omega) hown' hgrow
      have h31 : Boxed w1 (w.heap.size) 3 (.int .i64 most) := (H3.out.alloc _).kept hgrow (H3.out.not_row (by decide) HRow.out)
      have h41 : Boxed w1 (w.heap.size + 1) 45 (.slice none 0 0) := (H4.out.alloc _).kept hgrow (H4.out.not_row (by decide) HRow.out)
      have hc1 := hv1.cell
      have hf1 := hv1.frozen
      have hc3 := h31.cell
      have hc4 := h41.cell
      have hf4 := h41.frozen
      have hz1 := hv1.lt
      have HV2 := Lib.hid hv2
      have HR2 := Lib.hid hr2
      have HK2 := Lib.hid hk2
      have HB2 := Lib.hid hb2
      have H31 := Lib.hid h31
      have H41 := Lib.hid h41
      clear hv1 hv2 hr2 hk2 hb2 h31 h41 hown' hgrow
      by_cases he : (pre.length : Int) + 1 = most
      · have hbe : (((pre.length + 1 : Nat) : Int) == most) = true := by simp; omega
        gi_wp2
        refine ⟨(HK2.out.trans (KeepsOthers.setCell _ _ _)).from _, ⟨rfl, some ⟨g', 0, none⟩, cap', ?_⟩, (HB.out.trans HB2.out).setCell (p := ⟨w.heap.size + 1, 0, none⟩) (by show _ ≤ w.heap.size + 1; omega) _, ?_⟩
        · have h := (H41.out.other (B' := w.heap.size + 1 + 1 + 1) (by omega) (.slice (some ⟨g', 0, none⟩) (pre.length + 1) cap')).set (.slice (some ⟨g', 0, none⟩) (pre.length + 1) cap')
          rw [List.length_append]
          exact h
        · rw [List.length_append]
          show ((pre.length + 1 : Nat) : Int) = most
          omega
      · have hbe : (((pre.length + 1 : Nat) : Int) == most) = false := by simp; omega
        gi_wp2
        refine ⟨HK2.out.from _, HB2.out, ⟨⟨_, HV2.out, ?_, trivial⟩, H31.out.other (by omega) _⟩, H41.out.other (by omega) _, HB.out.trans HB2.out, ?_⟩
        · rw [List.length_append, List.map_append]
          exact HR2.out
        · rw [List.length_append]
          show ((pre.length + 1 : Nat) : Int) < most
          omega
    case done =>
      rintro D ys W hD hS ⟨⟨⟨v, hv, hrow, _⟩, hm3⟩, h4, hB, hlt⟩ hK
      have hc := hv.cell
      have hc4 := h4.cell
      have hf4 := h4.frozen
      have hz4 := h4.lt
      obtain ⟨A', c', rfl, _⟩ := Rd.of_own hrow
      have HKK := Lib.hid hK
      have HB := Lib.hid hB
      have H4 := Lib.hid h4
      have HS := Lib.hid hS
      have HLt := Lib.hid hlt
      clear hK hB h4 hS hlt hrow hm3 hv
      gi_wp2
      have hK2 : (W.setCell ⟨w.heap.size + 1, 0, none⟩ (.slice A' ys.length c')).heap[D]? = some (.deferred (some [])) := (KeepsOthers.setCell W ⟨w.heap.size + 1, 0, none⟩ (.slice A' ys.length c')).same D _ HKK.out rfl
      have hB2 : Below w.heap.size w (W.setCell ⟨w.heap.size + 1, 0, none⟩ (.slice A' ys.length c')) := HB.out.setCell (p := ⟨w.heap.size + 1, 0, none⟩) (by show _ ≤ w.heap.size + 1; omega) _
      have hb2 := H4.out.set (.slice A' ys.length c')
      have hc5 := cell_kept hb2.cell (grownBy_putObj' _ D (.deferred none)) (fun r e => by cases e; exact ⟨_, hK2, rfl⟩)
      refine ⟨by simp, .inl ⟨_, _, rfl, run_takeDeferred hK2, ?_⟩⟩
      refine ⟨.slice A' ys.length c', ?_, ⟨A', ys.length, c', rfl, ?_, hB2.trans (belowK_b (w := w) (Nat.le_refl _) _ D _ _ (by omega) hK2 rfl rfl)⟩⟩
      · simp [results, Tryd.results18, go_sem, hc5]
      · rw [keptLines, if_neg (by omega : ¬ most ≤ 0), HS.out]
        have := HLt.out
        rw [HS.out] at this
        omega
    case stop =>
      rintro D cc pre W hD hSp ⟨⟨rfl, A', c', hb⟩, hB, hp⟩ hK
      have HKK := Lib.hid hK
      have HB := Lib.hid hB
      have H4 := Lib.hid hb
      have HSp := Lib.hid hSp
      have HPp := Lib.hid hp
      clear hK hB hb hSp hp
      gi_wp2
      have hc5 := cell_kept H4.out.cell (grownBy_putObj' _ D (.deferred none)) (fun r e => by cases e; exact ⟨_, HKK.out, rfl⟩)
      refine ⟨by simp, .inl ⟨_, _, rfl, run_takeDeferred HKK.out, ?_⟩⟩
      refine ⟨.slice A' pre.length c', ?_, ⟨A', pre.length, c', rfl, ?_, HB.out.trans (belowK_b (w := w) (Nat.le_refl _) _ D _ _ (by omega) HKK.out rfl rfl)⟩⟩
      · simp [results, Tryd.results18, go_sem, hc5]
      · have := HSp.out
        have := HPp.out
        rw [keptLines, if_neg (by omega : ¬ most ≤ 0)]
        omega

theorem lines_any (l : List Tok) (A : Option Addr) (n c : Nat) (most : Int) (w : World) (hL : RdT w w.heap.size A n l) (h48 : n ≤ 1000000) (hlen : (linesP l).length ≤ 1000001) (hmost : -9223372036854775808 ≤ most ∧ most ≤ 9223372036854775807) :
    Calls Tryd.prog 18 #[.slice A n c, .int .i64 most] w (LinesPost l most w) :=
  (callsIn_wide (n := 9)).1 (lines_in Fence.wide 9 trivial trivial trivial rfl (by omega) l A n c most w hL h48 hlen hmost)
end Go.Proofs.YthfienjmajllpaaDoor
