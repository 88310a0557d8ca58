/-
  Chapter 3: contract of instr.Decode, the loop.
-/
import Derived.Test.YtkkbgpfimapnoaaCtrK
namespace Go.Proofs.Ytkkbgpfimapnoaa
open Go.RowKit
set_option linter.unusedVariables false

set_option maxHeartbeats 4000000 in
theorem decode_go (bs : List Int) (b o n c : Nat) (w : World) (hr : RdB w w.heap.size (some ⟨b, o, none⟩) n bs) (hy : Byts bs) (hnc : n ≤ c) (N : Nat)
    (g0 : bs.getD 0 0 = 84) (g1 : bs.getD 1 0 = 66) (hN : decN bs = N) (hN2 : N ≤ 256) (hn : n = 4 + 12 * N) :
    Calls Try.prog 17 #[.slice (some ⟨b, o, none⟩) n c] w (DecPost bs w) := by
  obtain ⟨i0, hi0, hz0, hz1, hz2⟩ := info_parts info_ins
  have h63 := hr.le
  unfold maxLen at h63
  have c0 := hr.getD_ (k := 0) (by omega)
  have c1 := hr.getD_ (k := 1) (by omega)
  have c2 := hr.getD_ (k := 2) (by omega)
  have c3 := hr.getD_ (k := 3) (by omega)
  rw [Nat.add_zero] at c0
  rw [g0] at c0
  rw [g1] at c1
  have b2 := hy.getD_ 2
  have b3 := hy.getD_ 3
  have q1 : bs.getD 2 0 + bs.getD 3 0 * 256 ≤ 256 := by unfold decN at hN; omega
  have q2 : ¬ ((n : Int) < 4 + (bs.getD 2 0 + bs.getD 3 0 * 256) * 12) := by unfold decN at hN; omega
  have q3 : ¬ (4 + (bs.getD 2 0 + bs.getD 3 0 * 256) * 12 < (n : Int)) := by unfold decN at hN; omega
  have HC : Hid (decCode bs = if (decList bs).all Ins.plain then 0 else 30) := by
    show _ = _
    rw [decCode, if_neg (by rw [hr.bytLen]; omega), if_neg (by rw [g0, g1]; simp), if_neg (by omega), if_neg (by rw [hr.bytLen]; omega), if_neg (by rw [hr.bytLen]; omega)]
  have HL := Lib.hid hr.bytLen
  have HN := Lib.hid hN
  have HY := Lib.hid hy
  obtain ⟨A1, s1, r1⟩ := cut_l (P := Try.prog) 23 elem_u8s size_u8s hr hnc 4 4 rfl (by omega)
  rw [byt_drop] at r1
  have R1 := Lib.hid r1
  have h4 : (4 : Int) ≤ n := by omega
  have HN' := Lib.hid hn
  clear g0 g1 hN hr hy r1 hn
  generalize bs.getD 2 0 = x2 at *
  generalize bs.getD 3 0 = x3 at *
  go_enter Try.func17, Try.ntmps17
  go_wp2
  go_quiet (fail)
  go_wp2
  go_loopw [0, 5] (fun s v wr => ∃ k : Nat, k ≤ N ∧ (∃ (A' : Option Addr) (m c' : Nat), s = .slice A' m c' ∧ m = 12 * (N - k) ∧ m ≤ c' ∧ Hid (RdB w w.heap.size A' m (bs.drop (4 + 12 * k)))) ∧ wr.ownsRow w.heap.size 47 5 v k (insCells ((decList bs).take k)) ∧ Below w.heap.size w wr ∧ Hid (∀ q i, q < k → (decList bs)[q]? = some i → i.plain = true)) (fun s _ _ => sliceLen s)
  case atStart => exact ⟨0, by omega, ⟨A1, n - 4, c - 4, rfl, by rw [HN'.out]; omega, by omega, R1.out⟩, by simpa [insCells] using World.ownsRow_nil _ _ _ _, below_drewN (Below.refl _ _) _, fun q i hq => by omega⟩
  case round =>
    obtain ⟨k, hk, ⟨A', m, c', rfl, hm, hmc, HRk⟩, hown, hb, hall⟩ := hrel
    obtain ⟨wo, rfl⟩ : ∃ wo : World, wo = wr := ⟨_, rfl⟩
    have hsz := hb.size
    have HB := Lib.hid hb
    have HO := Lib.hid hown
    clear hb hown
    by_cases hlt : k < N
    · have hm12 : 12 ≤ m := by omega
      have HM := Lib.hid hm
      obtain ⟨b', o', rfl, hbB'⟩ := HRk.out.addr (by omega)
      have hrk := HRk.out.below HB.out
      have d0 := hrk.getD_ (k := 0) (by omega)
      have d1 := hrk.getD_ (k := 1) (by omega)
      have d2 := hrk.getD_ (k := 2) (by omega)
      have d3 := hrk.getD_ (k := 3) (by omega)
      rw [Nat.add_zero] at d0
      have HYk : Byts (bs.drop (4 + 12 * k)) := fun x hx => HY.out x (List.mem_of_mem_drop hx)
      have y0 := HYk.getD_ 0
      have y1 := HYk.getD_ 1
      have y2 := HYk.getD_ 2
      have y3 := HYk.getD_ 3
      have t0 : (0 : Int) < (m : Int) := by omega
      have t1 : (1 : Int) < (m : Int) := by omega
      have t2 : (2 : Int) < (m : Int) := by omega
      have t3 : (3 : Int) < (m : Int) := by omega
      have HYK := Lib.hid HYk
      have HI : Hid (decAt bs k = { op := (bs.drop (4 + 12 * k)).getD 0 0, a := (bs.drop (4 + 12 * k)).getD 1 0, b := (bs.drop (4 + 12 * k)).getD 2 0, c := (bs.drop (4 + 12 * k)).getD 3 0, imm := getL (((bs.drop (4 + 12 * k)).drop 4).take 8) }) := by
        show _ = _
        simp only [getD_drop, List.drop_drop, decAt, Nat.add_zero]
      clear hm hrk HYk
      generalize hr : bs.drop (4 + 12 * k) = r at *
      have HRE := Lib.hid hr
      clear hr
      generalize r.getD 0 0 = z0 at *
      generalize r.getD 1 0 = z1 at *
      generalize r.getD 2 0 = z2 at *
      generalize r.getD 3 0 = z3 at *
      have hbo : b' < wo.heap.size := by omega
      have e0 := (World.cell?_alloc_lt wo (.cells #[.int .i64 0, .int .i64 0, .int .i64 0, .int .i64 0, .int .u64 0] 47) ⟨b', o', none⟩ hbo).trans d0
      have e1 := (World.cell?_alloc_lt wo (.cells #[.int .i64 0, .int .i64 0, .int .i64 0, .int .i64 0, .int .u64 0] 47) ⟨b', o' + 1, none⟩ hbo).trans d1
      have e2 := (World.cell?_alloc_lt wo (.cells #[.int .i64 0, .int .i64 0, .int .i64 0, .int .i64 0, .int .u64 0] 47) ⟨b', o' + 2, none⟩ hbo).trans d2
      have e3 := (World.cell?_alloc_lt wo (.cells #[.int .i64 0, .int .i64 0, .int .i64 0, .int .i64 0, .int .u64 0] 47) ⟨b', o' + 3, none⟩ hbo).trans d3
      go_wp2
      go_region
      go_wp2
      have K0 : Bk (wo.alloc (.cells #[.int .i64 z0, .int .i64 z1, .int .i64 z2, .int .i64 z3, .int .u64 0] 47)).drew wo.heap.size 47 #[.int .i64 z0, .int .i64 z1, .int .i64 z2, .int .i64 z3, .int .u64 0] := (Bk.new wo _ _).drew
      go_loopw [7, 73] (fun _ q wr => ∃ j : Nat, j ≤ 8 ∧ q = .int .i64 j ∧ Bk wr wo.heap.size 47 #[.int .i64 z0, .int .i64 z1, .int .i64 z2, .int .i64 z3, .int .u64 (getL ((r.drop 4).take j))] ∧ Below wo.heap.size wo wr) (fun _ q _ => 8 - (intOf q).toNat)
      case atStart => exact ⟨0, by omega, rfl, by simpa [getL] using K0, ((Below.refl _ _).alloc (Nat.le_refl _) _).drew⟩
      case round =>
        obtain ⟨q, hq, rfl, hk, hbi⟩ := hrel
        have HBi := Lib.hid hbi
        have HKi := Lib.hid hk
        by_cases hq8 : q < 8
        · have f4 : wr.cell? ⟨wo.heap.size, 4, none⟩ = some (.int .u64 (getL ((r.drop 4).take q))) := hk.cell 4
          have f4' : wr.frozen? ⟨wo.heap.size, 4, none⟩ = false := hk.frozen 4
          have hx : wr.cell? ⟨b', o' + (4 + q), none⟩ = some (.int .u8 (r.getD (4 + q) 0)) := by
            exact (hbi.cell (p := ⟨b', o' + (4 + q), none⟩) hbo).trans ((HRk.out.below HB.out).getD_ (by omega))
          have y4 := HYK.out.getD_ (4 + q)
          have HT : Hid ((r.drop 4).take (q + 1) = (r.drop 4).take q ++ [r.getD (4 + q) 0]) := by
            show _ = _
            rw [take_succ_at (x := r.getD (4 + q) 0)]
            rw [List.getElem?_drop, List.getD_eq_getElem?_getD, List.getElem?_eq_getElem (by rw [HRk.out.bytLen]; omega)]
            rfl
          have HTl : Hid (((r.drop 4).take q).length = q) := by
            show _ = _
            rw [List.length_take, List.length_drop, HRk.out.bytLen]; omega
          generalize r.getD (4 + q) 0 = z4 at *
          have gb := getL_bd ((r.drop 4).take q) (fun y hy => HYK.out y (List.mem_of_mem_drop (List.mem_of_mem_take hy)))
          rw [HTl.out] at gb
          have HS : Hid (getL ((r.drop 4).take (q + 1)) = bits .or .u64 (getL ((r.drop 4).take q)) (IntKind.u64.wrap (z4 * 2 ^ (8 * q)))) := by
            show _ = _
            rw [HT.out, getL_snoc, HTl.out, or_shl _ _ _ hq8 gb.1 gb.2 y4.1 y4.2]
          clear gb
          generalize getL ((r.drop 4).take q) = g at *
          have t4 : (4 : Int) + (q : Int) < (m : Int) := by omega
          clear hk hbi
          go_wp2
          go_region
          go_wp2
          go_roundw
          case rel => exact ⟨q + 1, by omega, by go_num, by rw [HS.out]; exact (HKi.out.set_ 4 _).drew, (HBi.out.setCell (Nat.le_refl _) _).drew⟩
          case measure => simp [intOf]; omega
        · obtain rfl : q = 8 := by omega
          generalize getL ((r.drop 4).take 8) = z4 at *
          have f0 : wr.cell? ⟨wo.heap.size, 0, none⟩ = some (.int .i64 z0) := hk.cell 0
          have f1 : wr.cell? ⟨wo.heap.size, 1, none⟩ = some (.int .i64 z1) := hk.cell 1
          have f2 : wr.cell? ⟨wo.heap.size, 2, none⟩ = some (.int .i64 z2) := hk.cell 2
          have f3 : wr.cell? ⟨wo.heap.size, 3, none⟩ = some (.int .i64 z3) := hk.cell 3
          have f4 : wr.cell? ⟨wo.heap.size, 4, none⟩ = some (.int .u64 z4) := hk.cell 4
          have hgl := hk.lt
          clear hk hbi
          go_wp2_with fail
          refine (plain_any _ _ _ _ _ _).mono ?_
          rintro e w2 ⟨rfl, hb2⟩
          have HBw := Lib.hid (HB.out.trans ((HBi.out.mono hsz).trans (hb2.mono (Nat.le_trans hsz HBi.out.size))))
          have hz2' := HBw.out.size
          have HOw := Lib.hid (own_below (own_below HO.out HBi.out) hb2)
          have j0 := (hb2.cell (p := ⟨wo.heap.size, 0, none⟩) hgl).trans f0
          have j1 := (hb2.cell (p := ⟨wo.heap.size, 1, none⟩) hgl).trans f1
          have j2 := (hb2.cell (p := ⟨wo.heap.size, 2, none⟩) hgl).trans f2
          have j3 := (hb2.cell (p := ⟨wo.heap.size, 3, none⟩) hgl).trans f3
          have j4 := (hb2.cell (p := ⟨wo.heap.size, 4, none⟩) hgl).trans f4
          have HA := Lib.hid (decList_at HN.out hlt)
          clear f0 f1 f2 f3 f4 hb2
          cases hp : plainB z0 z1 z2 z3 z4
          · have HE : Hid (decCode bs = 30) := by
              show _ = _
              rw [HC.out, List.all_eq_false.2 ⟨decAt bs k, List.mem_of_getElem? HA.out, by rw [HI.out]; simp [Ins.plain, hp]⟩]; rfl
            go_wp2
            go_ret2
            exact DecPost.bad HE.out (by decide) HBw.out
          · have hn2 : Hid (∀ q i, q < k + 1 → (decList bs)[q]? = some i → i.plain = true) := fun q i' hq' hi => by
              rcases Nat.lt_or_ge q k with h | h
              · exact hall.out q i' h hi
              · obtain rfl : q = k := by omega
                rw [HA.out] at hi
                obtain rfl : decAt bs q = i' := by simpa using hi
                rw [HI.out]; exact hp
            have HT1 : Hid ((decList bs).take (k + 1) = (decList bs).take k ++ [{ op := z0, a := z1, b := z2, c := z3, imm := z4 }]) := by
              show _ = _
              rw [take_succ_at HA.out, HI.out]
            obtain ⟨A2, s2, r2⟩ := cut_l (P := Try.prog) 23 elem_u8s size_u8s HRk.out hmc 12 12 rfl (by omega)
            rw [byt_drop] at r2
            have R2 : Hid (RdB w w.heap.size A2 (m - 12) (bs.drop (4 + 12 * (k + 1)))) := by
              have e : bs.drop (4 + 12 * (k + 1)) = r.drop (12 * 1) := by rw [← HRE.out, List.drop_drop]; congr 1
              show RdB _ _ _ _ _
              rw [e]; exact r2
            clear r2
            have hz3 : w.heap.size ≤ (w2.alloc (.cells #[.int .i64 z0, .int .i64 z1, .int .i64 z2, .int .i64 z3, .int .u64 z4] 47)).heap.size := by simp; omega
            have HOa := Lib.hid (HOw.out.alloc (.cells #[.int .i64 z0, .int .i64 z1, .int .i64 z2, .int .i64 z3, .int .u64 z4] 47))
            have HBa := Lib.hid (HBw.out.alloc hz2' (.cells #[.int .i64 z0, .int .i64 z1, .int .i64 z2, .int .i64 z3, .int .u64 z4] 47))
            have Ra : Hid (RdI (w2.alloc (.cells #[.int .i64 z0, .int .i64 z1, .int .i64 z2, .int .i64 z3, .int .u64 z4] 47)) (w2.heap.size + 1) (some ⟨w2.heap.size, 0, none⟩) 1 [{ op := z0, a := z1, b := z2, c := z3, imm := z4 }]) :=
              Rd.new w2 #[.int .i64 z0, .int .i64 z1, .int .i64 z2, .int .i64 z3, .int .u64 z4] 47 (size := 5) (m := 1) rfl (by simp [maxLen])
            have tok1 : True := trivial
            go_wp2_with (
              at_builtin
              have _t := tok1
              go_must (
                refine wpList_app _ rfl (.tmp 93) (.tmp 95) 22 rfl w.heap.size 47 i0 _ 5 40 Try.underlying22 hi0 hz0 hz1 hz2 rfl (by omega) _ k _ rfl HOa.out _ _ 1 _ _ rfl Ra.out (insCells_one _) ?_ ?_ ?_ ?_
                · simp only [maxLen]; omega
                · omega
                · exact hz3
                intro v5 w5 hown5 hg5 _
                have HO5 := Lib.hid hown5
                have HB5 := Lib.hid (below_own HBa.out HOa.out hg5 (Nat.le_refl _) hz3)
                clear hown5 hg5 _t tok1))
            go_roundw
            case rel =>
              refine ⟨k + 1, by omega, ⟨A2, m - 12, c' - 12, rfl, by rw [HM.out]; omega, by omega, R2.out⟩, ?_, HB5.out, hn2⟩
              rw [HT1.out, insCells_append]
              exact HO5.out
            case measure => simp [sliceLen]; omega
    · obtain rfl : k = N := by omega
      have hm0 : m = 0 := by omega
      clear hm
      subst hm0
      have HE : Hid (decCode bs = 0) := by
        show _ = _
        rw [HC.out, List.all_eq_true.2 fun i hi => by
          obtain ⟨q, hq, e⟩ := List.getElem_of_mem hi
          exact hall.out q i (by rw [← decList_length HN.out]; exact hq) (by rw [List.getElem?_eq_getElem hq, e])]
        rfl
      go_wp2
      go_ret2
      have : DecPost bs w (.returned (.tuple #[u5, .int .i64 (decCode bs)])) wo := by
        refine ⟨u5, rfl, ?_, HB.out⟩
        rw [decIns, if_pos HE.out, decList_length HN.out]
        have h := HO.out
        rw [List.take_of_length_le (by rw [decList_length HN.out]; omega)] at h
        exact h
      rw [HE.out] at this
      exact this

theorem decode_any (bs : List Int) (A : Option Addr) (n c : Nat) (w : World) (hr : RdB w w.heap.size A n bs) (hy : Byts bs) (hnc : n ≤ c) :
    Calls Try.prog 17 #[.slice A n c] w (DecPost bs w) := by
  by_cases h4 : n < 4
  · exact decode_lt bs A n c w hr hnc h4
  · obtain ⟨b, o, rfl, hb⟩ := hr.addr (by omega)
    by_cases h : bs.getD 0 0 = 84 ∧ bs.getD 1 0 = 66 ∧ decN bs ≤ 256 ∧ (bs.length : Int) = 4 + 12 * decN bs
    · obtain ⟨g0, g1, h2, h3⟩ := h
      have b2 := hy.getD_ 2
      have b3 := hy.getD_ 3
      have hN : decN bs = ((decN bs).toNat : Nat) := by unfold decN; omega
      rw [hr.bytLen] at h3
      exact decode_go bs b o n c w hr hy hnc _ g0 g1 hN (by omega) (by omega)
    · exact decode_bad bs b o n c w hr hy hnc (by omega) h
end Go.Proofs.Ytkkbgpfimapnoaa
