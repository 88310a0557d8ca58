/-
  Texts of one proof, joined (wip/gen/pack.py): LawO1.
-/
import Derived.Test.YtjggmimaolddkaaObAA
import Derived.Test.YtjggmimaolddkaaObAN
namespace Go.Proofs.Ytjggmimaolddkaa
open Go.RowKit
set_option linter.unusedVariables false

theorem and255o (x : Int) : 0 ≤ bits .and .i64 x 255 ∧ bits .and .i64 x 255 ≤ 255 := by
  show 0 ≤ IntKind.i64.wrap ((BitVec.ofInt 64 x &&& BitVec.ofInt 64 255).toNat : Int) ∧ IntKind.i64.wrap ((BitVec.ofInt 64 x &&& BitVec.ofInt 64 255).toNat : Int) ≤ 255
  have h : (BitVec.ofInt 64 x &&& BitVec.ofInt 64 255).toNat ≤ 255 := by
    rw [BitVec.toNat_and]
    exact Nat.le_trans Nat.and_le_right (by decide)
  rw [IntKind.wrap_i64]
  omega
theorem and3o (x : Int) : 0 ≤ bits .and .i64 x 3 ∧ bits .and .i64 x 3 ≤ 3 := by
  show 0 ≤ IntKind.i64.wrap ((BitVec.ofInt 64 x &&& BitVec.ofInt 64 3).toNat : Int) ∧ IntKind.i64.wrap ((BitVec.ofInt 64 x &&& BitVec.ofInt 64 3).toNat : Int) ≤ 3
  have h : (BitVec.ofInt 64 x &&& BitVec.ofInt 64 3).toNat ≤ 3 := by
    rw [BitVec.toNat_and]
    exact Nat.le_trans Nat.and_le_right (by decide)
  rw [IntKind.wrap_i64]
  omega
theorem info_rw7 : (Try.prog.info? 36).map (fun i => (i.zero, i.size, i.bytes)) = some (some (.agg #[.int .i64 0, .int .i64 0, .int .i64 0, .int .i64 0, .int .u64 0, .slice none 0 0]), 6, 64) := by kernel_rfl
theorem rw_one (l : List Rw7) (h : ∀ r ∈ l, r.Ok) : ∀ u ∈ rwCells l, u.oneCell' = true := by
  intro u hu
  obtain ⟨r, hr, hx⟩ := List.mem_flatMap.1 hu
  obtain ⟨A, n, c, hnv⟩ := (h r hr).nv
  simp only [Rw7.cells, List.mem_cons, List.not_mem_nil, or_false] at hx
  rcases hx with rfl | rfl | rfl | rfl | rfl | rfl
  all_goals first | rfl | (rw [hnv]; rfl)
theorem rw_app (a b : List Rw7) : rwCells (a ++ b) = rwCells a ++ rwCells b := by simp [rwCells]
theorem rw_take (l : List Rw7) (k : Nat) : (rwCells l).take (k * 6) = rwCells (l.take k) := by
  induction l generalizing k with
  | nil => simp [rwCells]
  | cons r l ih =>
    cases k with
    | zero => simp [rwCells]
    | succ k =>
      have := ih k
      unfold rwCells at this ⊢
      rw [List.take_succ_cons, List.flatMap_cons, List.flatMap_cons, List.take_append, ← this]
      rw [List.take_of_length_le (by simp [Rw7.cells]; omega)]
      congr 2
      simp [Rw7.cells]; omega
theorem rw_drop (l : List Rw7) (k : Nat) : (rwCells l).drop (k * 6) = rwCells (l.drop k) := by
  induction l generalizing k with
  | nil => simp [rwCells]
  | cons r l ih =>
    cases k with
    | zero => simp [rwCells]
    | succ k =>
      have := ih k
      unfold rwCells at this ⊢
      rw [List.drop_succ_cons, List.flatMap_cons, List.drop_append, ← this]
      rw [List.drop_of_length_le (by simp [Rw7.cells]; omega), List.nil_append]
      congr 1
      simp [Rw7.cells]; omega
theorem rw_set (l : List Rw7) (k : Nat) (r : Rw7) (x : Int) (h : l[k]? = some r) : (rwCells l).set (k * 6) (.int .i64 x) = rwCells (l.set k { r with at_ := x }) := by
  induction l generalizing k with
  | nil => simp at h
  | cons q l ih =>
    cases k with
    | zero =>
      simp at h
      subst h
      simp [rwCells, Rw7.cells]
    | succ k =>
      have := ih k (by simpa using h)
      unfold rwCells at this ⊢
      rw [List.set_cons_succ, List.flatMap_cons, List.flatMap_cons, ← this, List.set_append_right _ _ (by simp [Rw7.cells]; omega)]
      congr 2
      simp [Rw7.cells]; omega
theorem rows_elem1 : Try.prog.underlying 23 = some (.slice (Try.prog.elem 23)) := by kernel_rfl
/-- The head of a slice whose cells begin a block. -/
theorem cut_own (W : World) (g n c h : Nat) (hh : h ≤ n) (hnc : n ≤ c) (hc : c ≤ 9223372036854775807) : (Instr.sliceAt 23 (.slice (some ⟨g, 0, none⟩) n c) none (some (.int .i64 (h : Int))) none).run Try.prog W = .ok (.slice (some ⟨g, 0, none⟩) h c) W := by
  rw [run_sliceAt_slice W 23 _ _ _ _ rows_elem1, run_slice_h W 23 _ n c rows_elem1 .i64 h (by omega) (by omega), rows_size]
  by_cases hc : c = 0
  · simp [Result.andThen, sliced, hc]
  · simp [Result.andThen, sliced, hc, Addr.add]
theorem fits_code (recs : List Rc7) : ∀ (l : List Rw7) (seen : List (Int × Int)) (last : Int) (n : Nat), True := fun _ _ _ _ => trivial

set_option maxRecDepth 100000 in
set_option maxHeartbeats 16000000 in
theorem breaks_walk (l : List Rc7) (A : Option Addr) (n c : Nat) (lx : List Rx) (A' : Option Addr) (m c' : Nat) (za zh : Int) (W : World) (rd : RdR W W.heap.size A n l) (hwf : ∀ q ∈ l, q.Wf) (hnc : n ≤ c) (rdx : RowsIn W W.heap.size A' m lx) (hwx : ∀ x ∈ lx, x.Wf W W.heap.size) (hmc : m ≤ c')
    (wa : -9223372036854775808 ≤ za ∧ za ≤ 9223372036854775807) (wh : -9223372036854775808 ≤ zh ∧ zh ≤ 9223372036854775807) :
    Calls Try.prog 3 #[.slice A n c, .slice A' m c', .int .i64 za, .int .i64 zh] W fun e w' => e = .returned (.bool true) ∧ Below W.heap.size W w' := by
  obtain ⟨i0, hi0, hz0, hz1, hz2⟩ := info_parts info_rw7
  obtain ⟨L, hL⟩ : ∃ L, lx.map Rx.r = L := ⟨_, rfl⟩
  have hrows : RdW7 W W.heap.size A' m L := by rw [← hL]; exact rdx.rows
  have hrok : ∀ r ∈ L, r.Ok := fun r hr => by
    rw [← hL] at hr
    obtain ⟨x, hx, rfl⟩ := List.mem_map.1 hr
    exact (hwx x hx).row
  have hkok : ∀ q ∈ l, KOk q.key := fun q hq => (hwf q hq).ok.key
  have HR := Lib.hid rd
  have HW := Lib.hid hrows
  have HRo := Lib.hid hrok
  have HKo := Lib.hid hkok
  have HWf := Lib.hid hwf
  have HLn := Lib.hid hrows.rwLen
  have hn63 := rd.le
  have hm63 := hrows.le
  unfold maxLen at hn63 hm63
  clear rd hrows hrok hkok hwf rdx hwx hL
  go_enter Try.func3, Try.ntmps3
  go_upto_region 3 with
    (go_at_call 6
     refine (alive17_any _).mono ?_
     rintro e w1 ⟨rfl, hb1⟩
     have HB := Lib.hid hb1
     clear hb1)
  by_cases h12 : 12 < n
  · go_wp2
    go_ret
    exact ⟨rfl, HB.out⟩
  by_cases h13 : 12 < m
  · go_wp2
    go_ret
    exact ⟨rfl, HB.out⟩
  by_cases h14 : m = 0
  · have e14 : ((m : Int) == 0) = true := beq_iff_eq.2 (by omega)
    go_wp2
    go_ret
    exact ⟨rfl, HB.out⟩
  have e14 : ((m : Int) == 0) = false := beq_eq_false_iff_ne.2 (by omega)
  have hft := fun W1 hr hr' => ofits_any l L A n c A' m c' W1 hr hr' HRo.out HKo.out (by omega)
  obtain ⟨F, hF⟩ : ∃ F, fits7 l L = F := ⟨_, rfl⟩
  rw [hF] at hft
  obtain ⟨F1, F2⟩ := F
  simp only at hft
  have HFt := Lib.hid hft
  clear hft
  by_cases hF2 : F2 = 0
  case neg =>
    have eF : (F2 == 0) = false := beq_eq_false_iff_ne.2 hF2
    go_wp2_with
      (go_at_call 7
       refine (HFt.out _ ((HR.out.below HB.out).more HB.out.size) ((HW.out.below HB.out).more HB.out.size)).mono ?_
       rintro e w2 ⟨rfl, hb2⟩
       have HB := Lib.hid (HB.out.trans (hb2.mono HB.out.size))
       clear hb2)
    go_ret
    exact ⟨rfl, HB.out⟩
  subst hF2
  have hfit : (fits7 l L).2 = 0 := by rw [hF]
  clear hF
  obtain ⟨t0, t1⟩ := and255o za
  obtain ⟨tt, htt⟩ : ∃ tt, bits .and .i64 za 255 = tt := ⟨_, rfl⟩
  rw [htt] at t0 t1
  obtain ⟨t, ht, htn⟩ : ∃ t : Nat, tt.tmod (m : Int) = (t : Int) ∧ t < m := by
    have h1 : 0 ≤ tt.tmod (m : Int) := Int.tmod_nonneg _ t0
    have h2 : tt.tmod (m : Int) < (m : Int) := Int.tmod_lt_of_pos _ (by omega)
    exact ⟨(tt.tmod (m : Int)).toNat, by omega, by omega⟩
  obtain ⟨y0, y1⟩ := and3o zh
  obtain ⟨y, hy⟩ : ∃ y, bits .and .i64 zh 3 = y := ⟨_, rfl⟩
  rw [hy] at y0 y1
  have wt : IntKind.i64.wrap (t : Int) = (t : Int) := IntWalk.i64_in _ (by omega)
  have hm0 : ¬ (m : Int) = 0 := by omega
  go_upto_region 9 with
    (go_at_call 7
     refine (HFt.out _ ((HR.out.below HB.out).more HB.out.size) ((HW.out.below HB.out).more HB.out.size)).mono ?_
     rintro e w2 ⟨rfl, hb2⟩
     have HB := Lib.hid (HB.out.trans (hb2.mono HB.out.size))
     clear hb2)
  obtain ⟨b, o, r, hA', hbB, hrt, hc⟩ := (HW.out.below HB.out).rwAt htn
  subst hA'
  have hrm := List.mem_of_getElem? hrt
  obtain ⟨hok1, _, _⟩ := fits7_ok hfit
  obtain ⟨i, q, hfk, _, _⟩ := hok1 r hrm
  have HRt := Lib.hid hrt
  have HFk := Lib.hid hfk
  have HFit := Lib.hid hfit
  have HRk := Lib.hid (HRo.out r hrm)
  obtain ⟨hqm, hqk, _, hqi⟩ := findK_mem hfk
  have hin : i < n := by rw [← HR.out.rcLen]; exact (List.getElem?_eq_some_iff.1 hqi).1
  simp only [Nat.sub_zero] at hqi
  have HQi := Lib.hid hqi
  have HQf := Lib.hid (HWf.out q hqm)
  obtain ⟨nA, nn, nc, hnv⟩ := HRk.out.nv
  obtain ⟨rat, rwho, rtag, rco, rva, rnv⟩ := r
  simp only at hnv
  subst hnv
  have hfi : findI (rwho, rtag) l 0 = (i : Int) := by
    unfold findI
    have h : findK (rwho, rtag) l 0 = some (i, q) := hfk
    rw [h]
  have d1 : w2.cell? ⟨b, o + t * 6 + 1, none⟩ = some (.int .i64 rwho) := hc 1 _ rfl
  have d2 : w2.cell? ⟨b, o + t * 6 + 2, none⟩ = some (.int .i64 rtag) := hc 2 _ rfl
  have hti : (t : Int) < (m : Int) := by omega
  have hii : (i : Int) < (n : Int) := by omega
  have HBb := Lib.hid hbB
  clear hc hfk hqm hqk hqi hok1 hrt hrm hfit
  refine wp_region_held_drew (S := (fun w' => w'.cell? ⟨b, o + t * 6 + 1, none⟩ = some (.int .i64 rwho) ∧ w'.cell? ⟨b, o + t * 6 + 2, none⟩ = some (.int .i64 rtag))) (by kernel_rfl) ?_ (fun hHeld => ?_)
  · exact ⟨d1, d2⟩
  refine takeH (v := ?_) 0 rfl rfl rfl rfl (by kernel_rfl) (by kernel_rfl) (by kernel_rfl) (fun _ _ _ _ _ h => h) (by rfl) (by assumption) ?_ ?_
  rotate_left
  · (intro w hSw; (try dsimp only at hSw); go_split_ands; go_simp; try with_reducible rfl)
  try simp only [Act.put, List.setIfInBounds_toArray, List.set_cons_zero, List.set_cons_succ]
  refine takeH (v := ?_) 2 rfl rfl rfl rfl (by kernel_rfl) (by kernel_rfl) (by kernel_rfl) (fun _ _ _ _ _ h => h) (by rfl) (by assumption) ?_ ?_
  rotate_left
  · (intro w hSw; (try dsimp only at hSw); go_split_ands; go_simp; try with_reducible rfl)
  try simp only [Act.put, List.setIfInBounds_toArray, List.set_cons_zero, List.set_cons_succ]
  refine takeH (v := ?_) 3 rfl rfl rfl rfl (by kernel_rfl) (by kernel_rfl) (by kernel_rfl) (fun _ _ _ _ _ h => h) (by rfl) (by assumption) ?_ ?_
  rotate_left
  · (intro w hSw; (try dsimp only at hSw); go_split_ands; go_simp; try with_reducible rfl)
  try simp only [Act.put, List.setIfInBounds_toArray, List.set_cons_zero, List.set_cons_succ]
  refine takeH (v := ?_) 4 rfl rfl rfl rfl (by kernel_rfl) (by kernel_rfl) (by kernel_rfl) (fun _ _ _ _ _ h => h) (by rfl) (by assumption) ?_ ?_
  rotate_left
  · (intro w hSw; (try dsimp only at hSw); go_split_ands; go_simp; try with_reducible rfl)
  try simp only [Act.put, List.setIfInBounds_toArray, List.set_cons_zero, List.set_cons_succ]
  refine takeH (v := ?_) 5 rfl rfl rfl rfl (by kernel_rfl) (by kernel_rfl) (by kernel_rfl) (fun _ _ _ _ _ h => h) (by rfl) (by assumption) ?_ ?_
  rotate_left
  · (intro w hSw; (try dsimp only at hSw); go_split_ands; go_simp; try with_reducible rfl)
  try simp only [Act.put, List.setIfInBounds_toArray, List.set_cons_zero, List.set_cons_succ]
  refine takeH (v := ?_) 6 rfl rfl rfl rfl (by kernel_rfl) (by kernel_rfl) (by kernel_rfl) (fun _ _ _ _ _ h => h) (by rfl) (by assumption) ?_ ?_
  rotate_left
  · (intro w hSw; (try dsimp only at hSw); go_split_ands; go_simp; try with_reducible rfl)
  try simp only [Act.put, List.setIfInBounds_toArray, List.set_cons_zero, List.set_cons_succ]
  refine takeH (v := ?_) 7 rfl rfl rfl rfl (by kernel_rfl) (by kernel_rfl) (by kernel_rfl) (fun _ _ _ _ _ h => h) (by rfl) (by assumption) ?_ ?_
  rotate_left
  · (intro w hSw; (try dsimp only at hSw); go_split_ands; go_simp; try with_reducible rfl)
  try simp only [Act.put, List.setIfInBounds_toArray, List.set_cons_zero, List.set_cons_succ]
  refine takeH (v := ?_) 8 rfl rfl rfl rfl (by kernel_rfl) (by kernel_rfl) (by kernel_rfl) (fun _ _ _ _ _ h => h) (by rfl) (by assumption) ?_ ?_
  rotate_left
  · (intro w hSw; (try dsimp only at hSw); go_split_ands; go_simp; try with_reducible rfl)
  try simp only [Act.put, List.setIfInBounds_toArray, List.set_cons_zero, List.set_cons_succ]
  refine takeH (v := ?_) 9 rfl rfl rfl rfl (by kernel_rfl) (by kernel_rfl) (by kernel_rfl) (fun _ _ _ _ _ h => h) (by rfl) (by assumption) ?_ ?_
  rotate_left
  · (intro w hSw; (try dsimp only at hSw); go_split_ands; go_simp; try with_reducible rfl)
  try simp only [Act.put, List.setIfInBounds_toArray, List.set_cons_zero, List.set_cons_succ]
  refine takeH (v := ?_) 10 rfl rfl rfl rfl (by kernel_rfl) (by kernel_rfl) (by kernel_rfl) (fun _ _ _ _ _ h => h) (by rfl) (by assumption) ?_ ?_
  rotate_left
  · (intro w hSw; (try dsimp only at hSw); go_split_ands; go_simp; try with_reducible rfl)
  try simp only [Act.put, List.setIfInBounds_toArray, List.set_cons_zero, List.set_cons_succ]
  refine takeH (v := ?_) 11 rfl rfl rfl rfl (by kernel_rfl) (by kernel_rfl) (by kernel_rfl) (fun _ _ _ _ _ h => h) (by rfl) (by assumption) ?_ ?_
  rotate_left
  · (intro w hSw; (try dsimp only at hSw); go_split_ands; go_simp; try with_reducible rfl)
  try simp only [Act.put, List.setIfInBounds_toArray, List.set_cons_zero, List.set_cons_succ]
  refine comeH 1 rfl rfl rfl rfl (by kernel_rfl) (by rfl) (fun K hK => ?_)
  go_simp
  refine (records_any l A n c _ ((HR.out.below HB.out.drew).more HB.out.size) (by omega)).mono ?_
  rintro e w3 ⟨v3, rfl, hown, hb3⟩
  obtain ⟨A2, c2, rfl, hr2⟩ := Rd.of_own hown
  have HR2 := Lib.hid hr2
  have e1 : w3.cell? ⟨b, o + t * 6 + 1, none⟩ = some (.int .i64 rwho) := (hb3.cell (p := ⟨b, o + t * 6 + 1, none⟩) (Nat.lt_of_lt_of_le HBb.out HB.out.size)).trans d1
  have e2 : w3.cell? ⟨b, o + t * 6 + 2, none⟩ = some (.int .i64 rtag) := (hb3.cell (p := ⟨b, o + t * 6 + 2, none⟩) (Nat.lt_of_lt_of_le HBb.out HB.out.size)).trans d2
  have HB := Lib.hid (HB.out.drew.trans (hb3.mono HB.out.size))
  clear hown hr2 hb3
  go_simp
  refine hK.out _ _ ?_ (fun hHeld => ?_)
  · exact ⟨e1, e2⟩
  clear hK K
  try simp only [Act.put, List.setIfInBounds_toArray, List.set_cons_zero, List.set_cons_succ]
  refine comeH 12 rfl rfl rfl rfl (by kernel_rfl) (by rfl) (fun K hK => ?_)
  go_simp
  refine (rfind17_any l A2 n c2 rwho rtag _ HR2.out).mono ?_
  rintro e w4 ⟨rfl, hw4⟩
  rw [hw4]
  clear hw4
  go_simp
  refine hK.out _ _ ?_ (fun hHeld => ?_)
  · exact ⟨e1, e2⟩
  clear hK K
  try simp only [Act.put, List.setIfInBounds_toArray, List.set_cons_zero, List.set_cons_succ]
  refine takeH (v := ?_) 13 rfl rfl rfl rfl (by kernel_rfl) (by kernel_rfl) (by kernel_rfl) (fun _ _ _ _ _ h => h) (by rfl) (by assumption) ?_ ?_
  rotate_left
  · (intro w hSw; (try dsimp only at hSw); go_split_ands; go_simp; try with_reducible rfl)
  try simp only [Act.put, List.setIfInBounds_toArray, List.set_cons_zero, List.set_cons_succ]
  refine wpAnyH_done (by kernel_rfl) ?_ _
  try simp only [Act.put, List.setIfInBounds_toArray, List.set_cons_zero, List.set_cons_succ]
  clear d1 d2 e1 e2
  go_upto_region 12 with fail
  have OWN0 : Hid ((w3.alloc (.cells #[] 36)).ownsRow w3.heap.size 36 6 (.slice (some ⟨w3.heap.size, 0, none⟩) 0 0) 0 []) := World.ownsRow_made w3 #[] 0 (Nat.le_refl _) (by simp [maxLen]) rfl
  have HB0 : Hid (Below W.heap.size W (w3.alloc (.cells #[] 36))) := HB.out.alloc HB.out.size _
  have HZ0 : Hid (w3.heap.size ≤ (w3.alloc (.cells #[] 36)).heap.size) := by show _ ≤ _; simp
  have HW0 := Lib.hid (HW.out.below HB0.out)
  have HG3 := Lib.hid HB.out.size
  go_upto_region 13 with (
    at_builtin
    go_must (
      refine wpList_app _ rfl (.tmp 58) (.tmp 59) 23 rfl w3.heap.size 36 i0 _ 6 64 Try.underlying23 hi0 hz0 hz1 hz2 rfl (by omega) _ 0 [] rfl OWN0.out _ _ m c' _ rfl HW0.out (rw_one L HRo.out) ?_ ?_ ?_ ?_
      · simp only [maxLen]; omega
      · omega
      · exact HZ0.out
      intro v5 w5 hown5 hg5 _
      have hb5 := below_own HB0.out OWN0.out hg5 HG3.out HB0.out.size
      rw [Nat.zero_add, List.nil_append] at hown5
      obtain ⟨hxl, ⟨_, h0⟩ | ⟨g3, c3, cur, rfl, hbg, hhg, hmc3, hcm3, hcs3, hct3⟩⟩ := hown5
      · exact absurd h0 h14
      have HO5 := Lib.hid (show w5.ownsRow w3.heap.size 36 6 (.slice (some ⟨g3, 0, none⟩) m c3) m (rwCells L) from ⟨hxl, .inr ⟨g3, c3, cur, rfl, hbg, hhg, hmc3, hcm3, hcs3, hct3⟩⟩)
      have HB5 := Lib.hid hb5
      have HG5 := Lib.hid hbg
      have HC5 := Lib.hid hmc3
      have HC6 := Lib.hid hcm3
      clear hxl hbg hhg hmc3 hcm3 hcs3 hct3 hg5 hb5))
  obtain ⟨rb, ro, q', hA, hrb, hq', hqc⟩ := (HR.out.below HB5.out).rcAt hin
  obtain rfl : q = q' := by have h := HQi.out; rw [h] at hq'; injection hq'
  subst hA
  have HQc := Lib.hid hqc
  have HRb := Lib.hid hrb
  have HZ5 : Hid (W.heap.size ≤ w5.heap.size) := HB5.out.size
  clear OWN0 HB0 HZ0 hqc hq' hrb
  have hy4 : y = 0 ∨ y = 1 ∨ y = 2 ∨ y = 3 := by omega
  have q10 : w5.cell? ⟨rb, ro + i * 13 + 10, none⟩ = some (.bool q.done) := by rw [Nat.add_assoc]; exact HQc.out 10 _ rfl
  obtain ⟨qd, hqd⟩ : ∃ qd, q.done = qd := ⟨_, rfl⟩
  rw [hqd] at q10
  rcases hy4 with rfl | rfl | rfl | rfl
  · cases qd with
    | false =>
      go_wp2
      go_ret
      exact ⟨rfl, HB5.out⟩
    | true =>
      obtain ⟨A4, hcut4, hrd4⟩ := cut_l (P := Try.prog) (c := c') 23 rows_elem1 rows_size (HW.out.below HB5.out) hmc (t + 1) ((t : Int) + 1) (by omega) (by omega)
      have hcut5 := fun W1 => cut_own W1 g3 m c3 t (by omega) HC5.out HC6.out
      have e1t : IntKind.i64.wrap ((t : Int) + 1) = (t : Int) + 1 := IntWalk.i64_in _ (by omega)
      have HR4 : Hid (RdW7 w5 W.heap.size A4 (m - (t + 1)) (L.drop (t + 1))) := by
        show Rd _ _ _ _ _ _
        rw [← rw_drop]
        exact hrd4
      have HO4 := Lib.hid (own_head (k := t) HO5.out (by omega) (by omega) (by simp))
      rw [rw_take] at HO4
      clear hrd4
      go_upto_region 20 with fail
      refine wp_region_held_drew (S := (fun w' : World => True)) (by kernel_rfl) ?_ (fun hHeld => ?_)
      · trivial
      refine takeH (v := ?_) 0 rfl rfl rfl rfl (by kernel_rfl) (by kernel_rfl) (by kernel_rfl) (fun _ _ _ _ _ h => h) (by rfl) (by assumption) ?_ ?_
      rotate_left
      · (intro w hSw; (try dsimp only at hSw); go_split_ands; go_simp; try with_reducible rfl)
      try simp only [Act.put, List.setIfInBounds_toArray, List.set_cons_zero, List.set_cons_succ]
      refine takeH (v := ?_) 1 rfl rfl rfl rfl (by kernel_rfl) (by kernel_rfl) (by kernel_rfl) (fun _ _ _ _ _ h => h) (by rfl) (by assumption) ?_ ?_
      rotate_left
      · (intro w hSw; (try dsimp only at hSw); go_split_ands; go_simp; try with_reducible rfl)
      try simp only [Act.put, List.setIfInBounds_toArray, List.set_cons_zero, List.set_cons_succ]
      refine takeH (v := ?_) 2 rfl rfl rfl rfl (by kernel_rfl) (by kernel_rfl) (by kernel_rfl) (fun _ _ _ _ _ h => h) (by rfl) (by assumption) ?_ ?_
      rotate_left
      · (intro w hSw; (try dsimp only at hSw); go_split_ands; go_simp; try with_reducible rfl)
      try simp only [Act.put, List.setIfInBounds_toArray, List.set_cons_zero, List.set_cons_succ]
      refine takeH (v := ?_) 3 rfl rfl rfl rfl (by kernel_rfl) (by kernel_rfl) (by kernel_rfl) (fun _ _ _ _ _ h => h) (by rfl) (by assumption) ?_ ?_
      rotate_left
      · (intro w hSw; (try dsimp only at hSw); go_split_ands; go_simp; try with_reducible rfl)
      try simp only [Act.put, List.setIfInBounds_toArray, List.set_cons_zero, List.set_cons_succ]
      refine takeH (v := ?_) 4 rfl rfl rfl rfl (by kernel_rfl) (by kernel_rfl) (by kernel_rfl) (fun _ _ _ _ _ h => h) (by rfl) (by assumption) ?_ ?_
      rotate_left
      · (intro w hSw; (try dsimp only at hSw); go_split_ands; go_simp; try with_reducible rfl)
      try simp only [Act.put, List.setIfInBounds_toArray, List.set_cons_zero, List.set_cons_succ]
      refine takeH (v := ?_) 5 rfl rfl rfl rfl (by kernel_rfl) (by kernel_rfl) (by kernel_rfl) (fun _ _ _ _ _ h => h) (by rfl) (by assumption) ?_ ?_
      rotate_left
      · (intro w hSw; (try dsimp only at hSw); go_split_ands; go_simp; try with_reducible rfl)
      try simp only [Act.put, List.setIfInBounds_toArray, List.set_cons_zero, List.set_cons_succ]
      refine takeH (v := ?_) 6 rfl rfl rfl rfl (by kernel_rfl) (by kernel_rfl) (by kernel_rfl) (fun _ _ _ _ _ h => h) (by rfl) (by assumption) ?_ ?_
      rotate_left
      · (intro w hSw; (try dsimp only at hSw); go_split_ands; go_simp; try with_reducible rfl)
      try simp only [Act.put, List.setIfInBounds_toArray, List.set_cons_zero, List.set_cons_succ]
      refine comeH 7 rfl rfl rfl rfl (by kernel_rfl) (by rfl) (fun K hK => ?_)
      refine wp_app (.tmp 97) (.tmp 101) 23 w3.heap.size 36 i0 _ 6 64 Try.underlying23 hi0 hz0 hz1 hz2 rfl (by omega) _ t _ rfl HO4.out.drew _ A4 (m - (t + 1)) (c' - (t + 1)) _ rfl HR4.out.drew (rw_one _ (fun r hr => HRo.out r (List.mem_of_mem_drop hr))) (by simp only [maxLen]; omega) (by omega) (Nat.le_trans HG5.out (Nat.le_of_lt (HO5.out.lt g3 rfl).2)) ?_
      intro v6 w6 hown6 hg6 _
      have hb6 := below_own HB5.out.drew HO5.out.drew hg6 HG3.out HB5.out.size
      rw [← rw_app] at hown6
      obtain ⟨A6, c6, rfl, hr6⟩ := Rd.of_own hown6
      have HT6 : Hid (RdW7 w6 w6.heap.size A6 (t + (m - (t + 1))) (L.take t ++ L.drop (t + 1))) := hr6
      have HB6 := Lib.hid hb6
      clear hown6 hg6 hb6 hr6
      refine hK.out _ _ trivial (fun hHeld => ?_)
      clear hK K
      try simp only [Act.put, List.setIfInBounds_toArray, List.set_cons_zero, List.set_cons_succ]
      refine takeH (v := ?_) 8 rfl rfl rfl rfl (by kernel_rfl) (by kernel_rfl) (by kernel_rfl) (fun _ _ _ _ _ h => h) (by rfl) (by assumption) ?_ ?_
      rotate_left
      · (intro w hSw; (try dsimp only at hSw); go_split_ands; go_simp; try with_reducible rfl)
      try simp only [Act.put, List.setIfInBounds_toArray, List.set_cons_zero, List.set_cons_succ]
      refine wpAnyH_done (by kernel_rfl) ?_ _
      try simp only [Act.put, List.setIfInBounds_toArray, List.set_cons_zero, List.set_cons_succ]
      have HNe := Lib.hid (breaks_out (k := t) HFit.out HRt.out HFk.out hqd)
      have HTo : Hid (∀ r ∈ L.take t ++ L.drop (t + 1), r.Ok) := fun r hr => (List.mem_append.1 hr).elim (fun h => HRo.out r (List.mem_of_mem_take h)) (fun h => HRo.out r (List.mem_of_mem_drop h))
      have HTm : Hid (t + (m - (t + 1)) ≤ 1000) := by show _ ≤ _; omega
      obtain ⟨TL, hTL⟩ : ∃ TL, L.take t ++ L.drop (t + 1) = TL := ⟨_, rfl⟩
      rw [hTL] at HNe HTo HT6
      obtain ⟨M6, hM6⟩ : ∃ M6, t + (m - (t + 1)) = M6 := ⟨_, rfl⟩
      rw [hM6] at HT6 HTm ⊢
      clear hTL hM6 hcut4 hcut5 e1t q10
      have hft2 := fun W1 hr hr' => ofits_any l TL (some ⟨rb, ro, none⟩) n c A6 M6 c6 W1 hr hr' HTo.out HKo.out HTm.out
      obtain ⟨G, hG⟩ : ∃ G, fits7 l TL = G := ⟨_, rfl⟩
      rw [hG] at hft2 HNe
      obtain ⟨G1, G2⟩ := G
      simp only at hft2 HNe
      have eG : (G2 == 0) = false := beq_eq_false_iff_ne.2 HNe.out
      have eG2 : (G2 != 0) = true := bne_iff_ne.2 HNe.out
      have HFt2 := Lib.hid hft2
      clear hft2 hG
      go_wp2_with
        (go_at_call 7
         refine (HFt2.out _ ((HR.out.below HB6.out).more HB6.out.size) HT6.out).mono ?_
         rintro e w7 ⟨rfl, hb7⟩
         have HB7 := Lib.hid (HB6.out.trans (hb7.mono HB6.out.size))
         clear hb7)
      go_ret
      exact ⟨rfl, HB7.out⟩
  · have hcx := HW.out.below HB5.out
    obtain ⟨b2, o2, r2, hA2, _, hr2, hc2⟩ := hcx.rwAt htn
    injection hA2 with hA2
    injection hA2 with e1 e2 _
    subst e1 e2
    have e3 : r2 = ⟨rat, rwho, rtag, rco, rva, .slice nA nn nc⟩ := by
      have h := HRt.out
      rw [h] at hr2
      injection hr2 with h2
      exact h2.symm
    subst e3
    have d0 : w5.cell? ⟨b, o + t * 6, none⟩ = some (.int .i64 rat) := hc2 0 _ rfl
    have d1 : w5.cell? ⟨b, o + t * 6 + 1, none⟩ = some (.int .i64 rwho) := hc2 1 _ rfl
    have d2 : w5.cell? ⟨b, o + t * 6 + 2, none⟩ = some (.int .i64 rtag) := hc2 2 _ rfl
    have d3 : w5.cell? ⟨b, o + t * 6 + 3, none⟩ = some (.int .i64 rco) := hc2 3 _ rfl
    have d4 : w5.cell? ⟨b, o + t * 6 + 4, none⟩ = some (.int .u64 rva) := hc2 4 _ rfl
    have d5 : w5.cell? ⟨b, o + t * 6 + 5, none⟩ = some (.slice nA nn nc) := hc2 5 _ rfl
    clear hcx hc2 hr2
    have HOa := Lib.hid (HO5.out.alloc (.cells #[.int .i64 rat, .int .i64 rwho, .int .i64 rtag, .int .i64 rco, .int .u64 rva, .slice nA nn nc] 36))
    have HBa := Lib.hid (HB5.out.alloc HB5.out.size (.cells #[.int .i64 rat, .int .i64 rwho, .int .i64 rtag, .int .i64 rco, .int .u64 rva, .slice nA nn nc] 36))
    have Ra : Hid (Rd (w5.alloc (.cells #[.int .i64 rat, .int .i64 rwho, .int .i64 rtag, .int .i64 rco, .int .u64 rva, .slice nA nn nc] 36)) (w5.heap.size + 1) 6 (some ⟨w5.heap.size, 0, none⟩) 1 (rwCells [⟨rat, rwho, rtag, rco, rva, .slice nA nn nc⟩])) := Rd.new w5 _ _ (size := 6) (m := 1) rfl (by simp [maxLen])
    have HZa : Hid (w3.heap.size ≤ (w5.alloc (.cells #[.int .i64 rat, .int .i64 rwho, .int .i64 rtag, .int .i64 rco, .int .u64 rva, .slice nA nn nc] 36)).heap.size) := by
      show _ ≤ _
      have := Nat.le_trans HG5.out (Nat.le_of_lt (HO5.out.lt g3 rfl).2)
      simp; omega
    go_upto_region 27 with (
      at_builtin
      go_must (
        refine wpList_app _ rfl (.tmp 105) (.tmp 110) 23 rfl w3.heap.size 36 i0 _ 6 64 Try.underlying23 hi0 hz0 hz1 hz2 rfl (by omega) _ m _ rfl HOa.out _ _ 1 1 _ rfl Ra.out (rw_one _ (fun r hr => by simp at hr; subst hr; exact HRk.out)) ?_ ?_ ?_ ?_
        · simp only [maxLen]; omega
        · omega
        · exact HZa.out
        intro v6 w6 hown6 hg6 _
        have hb6 := below_own HBa.out HOa.out hg6 HG3.out HBa.out.size
        rw [← rw_app] at hown6
        obtain ⟨A6, c6, rfl, hr6⟩ := Rd.of_own hown6
        have HT6 : Hid (RdW7 w6 w6.heap.size A6 (m + 1) (L ++ [⟨rat, rwho, rtag, rco, rva, .slice nA nn nc⟩])) := hr6
        have HB6 := Lib.hid hb6
        clear hown6 hg6 hb6 hr6))
    have HNe := Lib.hid (breaks_twice (recs := l) HRt.out)
    have HTo : Hid (∀ r ∈ L ++ [⟨rat, rwho, rtag, rco, rva, .slice nA nn nc⟩], r.Ok) := fun r hr => (List.mem_append.1 hr).elim (fun h => HRo.out r h) (fun h => by simp at h; subst h; exact HRk.out)
    have HTm : Hid (m + 1 ≤ 1000) := by show _ ≤ _; omega
    obtain ⟨TL, hTL⟩ : ∃ TL, L ++ [⟨rat, rwho, rtag, rco, rva, .slice nA nn nc⟩] = TL := ⟨_, rfl⟩
    rw [hTL] at HNe HTo HT6
    obtain ⟨M6, hM6⟩ : ∃ M6, m + 1 = M6 := ⟨_, rfl⟩
    rw [hM6] at HT6 HTm ⊢
    clear hTL hM6 d0 d1 d2 d3 d4 d5 q10
    have hft2 := fun W1 hr hr' => ofits_any l TL (some ⟨rb, ro, none⟩) n c A6 M6 c6 W1 hr hr' HTo.out HKo.out HTm.out
    obtain ⟨G, hG⟩ : ∃ G, fits7 l TL = G := ⟨_, rfl⟩
    rw [hG] at hft2 HNe
    obtain ⟨G1, G2⟩ := G
    simp only at hft2 HNe
    have eG : (G2 == 0) = false := beq_eq_false_iff_ne.2 HNe.out
    have eG2 : (G2 != 0) = true := bne_iff_ne.2 HNe.out
    have HFt2 := Lib.hid hft2
    clear hft2 hG
    go_wp2_with
      (go_at_call 7
       refine (HFt2.out _ ((HR.out.below HB6.out).more HB6.out.size) HT6.out).mono ?_
       rintro e w7 ⟨rfl, hb7⟩
       have HB7 := Lib.hid (HB6.out.trans (hb7.mono HB6.out.size))
       clear hb7)
    go_ret
    exact ⟨rfl, HB7.out⟩
  · have hcx := HO5.out.cellAt (t * 6) (by omega)
    have hcy := HO5.out.frozenAt (t * 6)
    have hcz : (rwCells L)[t * 6]? = some (.int .i64 rat) := by
      have := o_flat_at Rw7.cells 6 (fun _ => rfl) L t _ 0 HRt.out (by omega)
      exact this
    rw [hcz] at hcx
    have q7 : w5.cell? ⟨rb, ro + i * 13 + 7, none⟩ = some (.int .i64 q.from_) := by rw [Nat.add_assoc]; exact HQc.out 7 _ rfl
    have hqr := HQf.out.from_
    obtain ⟨qf, hqf⟩ : ∃ qf, q.from_ = qf := ⟨_, rfl⟩
    rw [hqf] at q7 hqr
    obtain ⟨xx, hxx⟩ : ∃ xx, IntKind.i64.wrap (qf - 1) = xx := ⟨_, rfl⟩
    
    go_upto_region 25 with fail
    obtain ⟨W6, hW6⟩ : ∃ W6, w5.setCell ⟨g3, t * 6, none⟩ (.int .i64 xx) = W6 := ⟨_, rfl⟩
    have hst := HO5.out.stored (t * 6) (.int .i64 xx)
    rw [rw_set L t _ xx HRt.out, hW6] at hst
    have HO6 := Lib.hid hst.1
    have HB6 := Lib.hid (HB5.out.grown hst.2 HB5.out.size (fun g e => by cases e; exact Nat.le_trans HG3.out HG5.out))
    rw [hW6]
    clear hst hW6 hcx hcy hcz q7
    have q7 : W6.cell? ⟨rb, ro + i * 13 + 7, none⟩ = some (.int .i64 qf) := by
      have h := HQc.out 7 _ rfl
      have hr := (HR.out.below HB6.out).rcAt hin
      obtain ⟨rb2, ro2, q2, hA2, _, hq2, hc2⟩ := hr
      injection hA2 with hA2
      injection hA2 with e1 e2 _
      subst e1 e2
      obtain rfl : q = q2 := by have h := HQi.out; rw [h] at hq2; injection hq2
      rw [Nat.add_assoc, ← hqf]; exact hc2 7 _ rfl
    by_cases hmin : qf = -9223372036854775808
    · have emin : (qf == -9223372036854775808) = true := beq_iff_eq.2 hmin
      go_wp2
      go_ret
      exact ⟨rfl, HB6.out⟩
    have emin : (qf == -9223372036854775808) = false := beq_eq_false_iff_ne.2 hmin
    have hxe : xx = qf - 1 := by rw [← hxx]; exact IntWalk.i64_in _ (by omega)
    have HXr : Hid (-9223372036854775808 ≤ xx ∧ xx ≤ 9223372036854775807) := by show _ ∧ _; omega
    have hlow : xx < q.from_ := by rw [hqf]; omega
    have HNe := Lib.hid (breaks_time (x := xx) HRt.out HFk.out (Or.inl hlow))
    have HTo : Hid (∀ r ∈ L.set t ⟨xx, rwho, rtag, rco, rva, .slice nA nn nc⟩, r.Ok) := fun r hr => by
      rcases List.mem_or_eq_of_mem_set hr with h | rfl
      · exact HRo.out r h
      · exact ⟨HRk.out.key, HXr.out, _, _, _, rfl⟩
    have HTm : Hid (m ≤ 1000) := by show _ ≤ _; omega
    have HT6 : Hid (RdW7 W6 W6.heap.size (some ⟨g3, 0, none⟩) m (L.set t ⟨xx, rwho, rtag, rco, rva, .slice nA nn nc⟩)) := by
      obtain ⟨A6, c6, hv6, hr6⟩ := Rd.of_own HO6.out
      injection hv6 with h1 h2 h3
      subst h1
      exact hr6
    have HNe : Hid ((fits7 l (L.set t ⟨xx, rwho, rtag, rco, rva, .slice nA nn nc⟩)).2 ≠ 0) := HNe.out
    obtain ⟨TL, hTL⟩ : ∃ TL, L.set t ⟨xx, rwho, rtag, rco, rva, .slice nA nn nc⟩ = TL := ⟨_, rfl⟩
    rw [hTL] at HNe HTo HT6
    clear hTL
    clear hxx hxe hlow hqf q10
    have hft2 := fun W1 hr hr' => ofits_any l TL (some ⟨rb, ro, none⟩) n c (some ⟨g3, 0, none⟩) m c3 W1 hr hr' HTo.out HKo.out HTm.out
    obtain ⟨G, hG⟩ : ∃ G, fits7 l TL = G := ⟨_, rfl⟩
    rw [hG] at hft2 HNe
    obtain ⟨G1, G2⟩ := G
    simp only at hft2 HNe
    have eG : (G2 == 0) = false := beq_eq_false_iff_ne.2 HNe.out
    have eG2 : (G2 != 0) = true := bne_iff_ne.2 HNe.out
    have HFt2 := Lib.hid hft2
    clear hft2 hG
    go_wp2_with
      (go_at_call 7
       refine (HFt2.out _ ((HR.out.below HB6.out).more HB6.out.size) HT6.out).mono ?_
       rintro e w7 ⟨rfl, hb7⟩
       have HB7 := Lib.hid (HB6.out.trans (hb7.mono HB6.out.size))
       clear hb7)
    go_ret
    exact ⟨rfl, HB7.out⟩
  · have hcx := HO5.out.cellAt (t * 6) (by omega)
    have hcy := HO5.out.frozenAt (t * 6)
    have hcz : (rwCells L)[t * 6]? = some (.int .i64 rat) := by
      have := o_flat_at Rw7.cells 6 (fun _ => rfl) L t _ 0 HRt.out (by omega)
      exact this
    rw [hcz] at hcx
    have q7 : w5.cell? ⟨rb, ro + i * 13 + 8, none⟩ = some (.int .i64 q.till) := by rw [Nat.add_assoc]; exact HQc.out 8 _ rfl
    have hqr := HQf.out.till
    obtain ⟨qf, hqf⟩ : ∃ qf, q.till = qf := ⟨_, rfl⟩
    rw [hqf] at q7 hqr
    obtain ⟨xx, hxx⟩ : ∃ xx, IntKind.i64.wrap (qf + 1) = xx := ⟨_, rfl⟩
    
    cases qd with
    | false =>
      go_wp2
      go_ret
      exact ⟨rfl, HB5.out⟩
    | true =>
    by_cases hmax : qf = 9223372036854775807
    · have emax : (qf == 9223372036854775807) = true := beq_iff_eq.2 hmax
      go_wp2
      go_ret
      exact ⟨rfl, HB5.out⟩
    have emax : (qf == 9223372036854775807) = false := beq_eq_false_iff_ne.2 hmax
    go_upto_region 27 with fail
    obtain ⟨W6, hW6⟩ : ∃ W6, w5.setCell ⟨g3, t * 6, none⟩ (.int .i64 xx) = W6 := ⟨_, rfl⟩
    have hst := HO5.out.stored (t * 6) (.int .i64 xx)
    rw [rw_set L t _ xx HRt.out, hW6] at hst
    have HO6 := Lib.hid hst.1
    have HB6 := Lib.hid (HB5.out.grown hst.2 HB5.out.size (fun g e => by cases e; exact Nat.le_trans HG3.out HG5.out))
    rw [hW6]
    clear hst hW6 hcx hcy hcz q7
    have hxe : xx = qf + 1 := by rw [← hxx]; exact IntWalk.i64_in _ (by omega)
    have HXr : Hid (-9223372036854775808 ≤ xx ∧ xx ≤ 9223372036854775807) := by show _ ∧ _; omega
    have hhigh : q.till < xx := by rw [hqf]; omega
    have HNe := Lib.hid (breaks_time (x := xx) HRt.out HFk.out (Or.inr ⟨hqd, hhigh⟩))
    have HTo : Hid (∀ r ∈ L.set t ⟨xx, rwho, rtag, rco, rva, .slice nA nn nc⟩, r.Ok) := fun r hr => by
      rcases List.mem_or_eq_of_mem_set hr with h | rfl
      · exact HRo.out r h
      · exact ⟨HRk.out.key, HXr.out, _, _, _, rfl⟩
    have HTm : Hid (m ≤ 1000) := by show _ ≤ _; omega
    have HT6 : Hid (RdW7 W6 W6.heap.size (some ⟨g3, 0, none⟩) m (L.set t ⟨xx, rwho, rtag, rco, rva, .slice nA nn nc⟩)) := by
      obtain ⟨A6, c6, hv6, hr6⟩ := Rd.of_own HO6.out
      injection hv6 with h1 h2 h3
      subst h1
      exact hr6
    have HNe : Hid ((fits7 l (L.set t ⟨xx, rwho, rtag, rco, rva, .slice nA nn nc⟩)).2 ≠ 0) := HNe.out
    obtain ⟨TL, hTL⟩ : ∃ TL, L.set t ⟨xx, rwho, rtag, rco, rva, .slice nA nn nc⟩ = TL := ⟨_, rfl⟩
    rw [hTL] at HNe HTo HT6
    clear hTL
    clear hxx hxe hhigh hqf q10
    have hft2 := fun W1 hr hr' => ofits_any l TL (some ⟨rb, ro, none⟩) n c (some ⟨g3, 0, none⟩) m c3 W1 hr hr' HTo.out HKo.out HTm.out
    obtain ⟨G, hG⟩ : ∃ G, fits7 l TL = G := ⟨_, rfl⟩
    rw [hG] at hft2 HNe
    obtain ⟨G1, G2⟩ := G
    simp only at hft2 HNe
    have eG : (G2 == 0) = false := beq_eq_false_iff_ne.2 HNe.out
    have eG2 : (G2 != 0) = true := bne_iff_ne.2 HNe.out
    have HFt2 := Lib.hid hft2
    clear hft2 hG
    go_wp2_with
      (go_at_call 7
       refine (HFt2.out _ ((HR.out.below HB6.out).more HB6.out.size) HT6.out).mono ?_
       rintro e w7 ⟨rfl, hb7⟩
       have HB7 := Lib.hid (HB6.out.trans (hb7.mono HB6.out.size))
       clear hb7)
    go_ret
    exact ⟨rfl, HB7.out⟩
end Go.Proofs.Ytjggmimaolddkaa
