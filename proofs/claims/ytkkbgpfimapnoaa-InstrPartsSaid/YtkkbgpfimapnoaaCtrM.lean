/-
  Chapter 3: contract of tumblerref03.Decode.
-/
import Derived.Test.YtkkbgpfimapnoaaCtrK
import Derived.Test.YtkkbgpfimapnoaaOwn2
import Derived.Deep.RegionHeld3
namespace Go.Proofs.Ytkkbgpfimapnoaa
open Go.RowKit
set_option linter.unusedVariables false

theorem rdecode_lt (bs : List Int) (A : Option Addr) (n c : Nat) (w : World) (hr : RdB w w.heap.size A n bs) (hnc : n ≤ c) (h4 : n < 4) :
    Calls Try.prog 18 #[.slice A n c] w (DecPost bs w) := by
  have E : decCode bs = 34 := by rw [decCode, if_pos (by rw [hr.bytLen]; exact h4)]
  have HE := Lib.hid E
  clear E hr
  go_enter Try.func18, Try.ntmps18
  go_wp2
  go_ret2
  exact DecPost.bad HE.out (by decide) (Below.refl _ _)

theorem bytes2 (bs : List Int) (hy : Byts bs) (h2 : 2 ≤ bs.length) : ((strOfNums (bs.take 2)).toList == [84, 66]) = decide (bs.getD 0 0 = 84 ∧ bs.getD 1 0 = 66) := by
  match bs, h2 with
  | x :: y :: r, _ =>
    have hx := hy x (by simp)
    have hy' := hy y (by simp)
    rw [ByteArray.toList_eq]
    have e : (strOfNums ((x :: y :: r).take 2)).data.toList = [UInt8.ofNat x.toNat, UInt8.ofNat y.toNat] := rfl
    rw [e, Bool.eq_iff_iff]
    simp only [beq_iff_eq, List.cons.injEq, and_true, decide_eq_true_eq, List.getD_cons_zero, List.getD_cons_succ]
    have k : ∀ z : Int, 0 ≤ z → z ≤ 255 → ∀ m : Nat, m < 256 → (UInt8.ofNat z.toNat = UInt8.ofNat m ↔ z = m) := fun z h0 h1 m hm => by
      rw [← UInt8.toNat_inj]
      simp only [UInt8.toNat_ofNat']
      omega
    exact and_congr (k x hx.1 hx.2 84 (by omega)) (k y hy'.1 hy'.2 66 (by omega))

theorem getL_two (bs : List Int) (h4 : 4 ≤ bs.length) : getL ((bs.drop 2).take 2) = decN bs := by
  match bs, h4 with
  | a :: b :: c :: d :: r, _ => simp [getL, decN]; omega

set_option maxHeartbeats 4000000 in
theorem rdecode_go (bs : List Int) (b o n c : Nat) (w : World) (hr : RdB w w.heap.size (some ⟨b, o, none⟩) n bs) (hy : Byts bs) (hnc : n ≤ c) (h4 : 4 ≤ n) :
    Calls Try.prog 18 #[.slice (some ⟨b, o, none⟩) n c] w (DecPost bs w) := by
  obtain ⟨i0, hi0, hz0, hz1, hz2⟩ := info_parts info_ins
  have h63 := hr.le
  unfold maxLen at h63
  have hl := hr.bytLen
  obtain ⟨A1, s1, r1⟩ := cut_h (P := Try.prog) 23 elem_u8s size_u8s hr hnc 2 2 rfl (by omega)
  rw [byt_take, Nat.mul_one] at r1
  have hcv := conv_str (P := Try.prog) (c := c) 23 9 5 Try.underlying23 Try.underlying5 Try.underlying9 r1
  obtain ⟨A2, s2, r2⟩ := cut_lh (P := Try.prog) 23 elem_u8s size_u8s hr hnc 2 4 2 4 rfl rfl (by omega) (by omega)
  rw [byt_drop, byt_take, Nat.mul_one] at r2
  have G2 := getL_two bs (by omega)
  have hb2 := bytes2 bs hy (by omega)
  have b2 := hy.getD_ 2
  have b3 := hy.getD_ 3
  have hN0 : 0 ≤ decN bs ∧ decN bs ≤ 65535 := by unfold decN; omega
  have HC : Hid (decCode bs = if bs.getD 0 0 ≠ 84 ∨ bs.getD 1 0 ≠ 66 then 33 else if 256 < decN bs then 3
      else if (n : Int) < 4 + 12 * decN bs then 34 else if 4 + 12 * decN bs < (n : Int) then 35 else if (decList bs).all Ins.plain then 0 else 30) := by
    show _ = _
    rw [decCode, if_neg (by omega), hl]
  have hG : ∀ W : World, Rd W w.heap.size 1 A2 2 (byt ((bs.drop 2).take 2)) → W.heap.size = w.heap.size → Calls Try.prog 43 #[.slice A2 2 (c - 2)] W fun e w' => e = .returned (.int .u64 (decN bs)) ∧ W = w' := fun W hW hz => by
    have := get_any ((bs.drop 2).take 2) A2 2 (c - 2) W (by rw [hz]; exact hW) (fun x hx => hy x (List.mem_of_mem_drop (List.mem_of_mem_take hx))) (by omega)
    rw [G2] at this
    exact this
  have HG := Lib.hid hG
  have h4' : (4 : Int) ≤ n := by omega
  have HR := Lib.hid hr
  have HR2 := Lib.hid r2
  have HY := Lib.hid hy
  have HL := Lib.hid hl
  have HND : Hid (∀ k, bs.getD k 0 = bs.getD k 0) := fun _ => rfl
  clear hG r1 G2 r2 hr hl b2 b3
  by_cases hx : bs.getD 0 0 = 84 ∧ bs.getD 1 0 = 66
  · rw [decide_eq_true hx] at hb2
    by_cases hN : 256 < decN bs
    · have HE : Hid (decCode bs = 3) := by show _ = _; rw [HC.out, if_neg (by simp only [hx.1, hx.2]; simp), if_pos hN]
      clear hx HC hy HND
      generalize decN bs = N at *
      go_enter Try.func18, Try.ntmps18
      go_wp2_with (go_at_call 43; refine (HG.out _ HR2.out rfl).mono ?_; rintro e w1 ⟨rfl, rfl⟩)
      go_ret2
      exact DecPost.bad HE.out (by decide) (Below.refl _ _)
    · by_cases h3 : (n : Int) < 4 + 12 * decN bs
      · have HE : Hid (decCode bs = 34) := by show _ = _; rw [HC.out, if_neg (by simp only [hx.1, hx.2]; simp), if_neg hN, if_pos h3]
        clear hx HC hy HND
        generalize decN bs = N at *
        go_enter Try.func18, Try.ntmps18
        go_wp2_with (go_at_call 43; refine (HG.out _ HR2.out rfl).mono ?_; rintro e w1 ⟨rfl, rfl⟩)
        go_ret2
        exact DecPost.bad HE.out (by decide) (Below.refl _ _)
      · by_cases h5 : 4 + 12 * decN bs < (n : Int)
        · have HE : Hid (decCode bs = 35) := by show _ = _; rw [HC.out, if_neg (by simp only [hx.1, hx.2]; simp), if_neg hN, if_neg h3, if_pos h5]
          clear hx HC hy HND
          generalize decN bs = N at *
          go_enter Try.func18, Try.ntmps18
          go_wp2_with (go_at_call 43; refine (HG.out _ HR2.out rfl).mono ?_; rintro e w1 ⟨rfl, rfl⟩)
          go_ret2
          exact DecPost.bad HE.out (by decide) (Below.refl _ _)
        · have HC2 : Hid (decCode bs = if (decList bs).all Ins.plain then 0 else 30) := by show _ = _; rw [HC.out, if_neg (by simp only [hx.1, hx.2]; simp), if_neg hN, if_neg h3, if_neg h5]
          obtain ⟨N, hNN⟩ : ∃ N : Nat, decN bs = N := ⟨(decN bs).toNat, by omega⟩
          have HNN := Lib.hid hNN
          rw [hNN] at HG hN0 hN h3 h5
          clear hx HC hy HND hNN
          go_enter Try.func18, Try.ntmps18
          go_wp2_with (go_at_call 43; refine (HG.out _ HR2.out rfl).mono ?_; rintro e w1 ⟨rfl, rfl⟩)
          have h3' : 4 + 12 * N ≤ n := by omega
          have h5' : n ≤ 4 + 12 * N := by omega
          have hN256 : N ≤ 256 := by omega
          clear hN h3 h5 hN0
          go_loopw [5, 6, 7] (fun v k _ wr => ∃ j : Nat, j ≤ N ∧ k = .int .i64 j ∧ wr.ownsRow w.heap.size 47 5 v j (insCells ((decList bs).take j)) ∧ Below w.heap.size w wr) (fun _ k _ _ => N - (intOf k).toNat)
          case atStart => exact ⟨0, by omega, rfl, by simpa [insCells] using World.ownsRow_made w #[] 0 (Nat.le_refl _) (by simp [maxLen]) rfl, (Below.refl _ _).alloc (Nat.le_refl _) _⟩
          case round =>
            obtain ⟨k, hk, rfl, hown, hb⟩ := hrel
            obtain ⟨wo, rfl⟩ : ∃ wo : World, wo = wr := ⟨_, rfl⟩
            have hsz := hb.size
            have HB := Lib.hid hb
            have HO := Lib.hid hown
            clear hb hown
            by_cases hlt : k < N
            · obtain ⟨A3, s3, r3⟩ := cut_l (P := Try.prog) 23 elem_u8s size_u8s HR.out hnc (4 + 12 * k) (4 + 12 * (k : Int)) (by omega) (by omega)
              rw [byt_drop, Nat.mul_one] at r3
              obtain ⟨m, hm⟩ : ∃ m, n - (4 + 12 * k) = m := ⟨_, rfl⟩
              obtain ⟨c3, hc3⟩ : ∃ c3, c - (4 + 12 * k) = c3 := ⟨_, rfl⟩
              rw [hm, hc3] at s3
              rw [hm] at r3
              have hm12 : 12 ≤ m := by omega
              have hmc : m ≤ c3 := by omega
              obtain ⟨A4, s4, r4⟩ := cut_lh (P := Try.prog) 23 elem_u8s size_u8s r3 hmc 4 12 4 12 rfl rfl (by omega) (by omega)
              rw [byt_drop, byt_take, Nat.mul_one] at r4
              obtain ⟨b', o', rfl, hbB'⟩ := r3.addr (by omega)
              have hrk := r3.below HB.out
              have dw0 := r3.getD_ (k := 0) (by omega)
              have dw1 := r3.getD_ (k := 1) (by omega)
              have dw2 := r3.getD_ (k := 2) (by omega)
              have dw3 := r3.getD_ (k := 3) (by omega)
              rw [Nat.add_zero] at dw0
              have d0 := hrk.getD_ (k := 0) (by omega)
              have d1 := hrk.getD_ (k := 1) (by omega)
              have d2 := hrk.getD_ (k := 2) (by omega)
              have d3 := hrk.getD_ (k := 3) (by omega)
              rw [Nat.add_zero] at d0
              have HYk : Byts (bs.drop (4 + 12 * k)) := fun x hx => HY.out x (List.mem_of_mem_drop hx)
              have y0 := HYk.getD_ 0
              have y1 := HYk.getD_ 1
              have y2 := HYk.getD_ 2
              have y3 := HYk.getD_ 3
              have t0 : 0 < m := by omega
              have t1 : (1 : Int) < (m : Int) := by omega
              have t2 : (2 : Int) < (m : Int) := by omega
              have t3 : (3 : Int) < (m : Int) := by omega
              have HI : Hid (decAt bs k = { op := (bs.drop (4 + 12 * k)).getD 0 0, a := (bs.drop (4 + 12 * k)).getD 1 0, b := (bs.drop (4 + 12 * k)).getD 2 0, c := (bs.drop (4 + 12 * k)).getD 3 0, imm := getL (((bs.drop (4 + 12 * k)).drop 4).take 8) }) := by
                show _ = _
                simp only [getD_drop, List.drop_drop, decAt, Nat.add_zero]
              have HA := Lib.hid (decList_at HNN.out hlt)
              have HGet : ∀ W : World, Below w.heap.size w W → Calls Try.prog 43 #[.slice A4 8 (c3 - 4)] W fun e w' => e = .returned (.int .u64 (getL (((bs.drop (4 + 12 * k)).drop 4).take 8))) ∧ w' = W := fun W hW =>
                (get_any _ A4 8 (c3 - 4) W ((r4.below hW).more hW.size) (fun x hx => HYk x (List.mem_of_mem_drop (List.mem_of_mem_take hx))) (by omega)).mono fun e w' h => ⟨h.1, h.2.symm⟩
              have HGE := Lib.hid HGet
              clear HGet r4 hrk r3 HYk hm hc3
              generalize (bs.drop (4 + 12 * k)).getD 0 0 = z0 at *
              generalize (bs.drop (4 + 12 * k)).getD 1 0 = z1 at *
              generalize (bs.drop (4 + 12 * k)).getD 2 0 = z2 at *
              generalize (bs.drop (4 + 12 * k)).getD 3 0 = z3 at *
              generalize getL (((bs.drop (4 + 12 * k)).drop 4).take 8) = z4 at *
              have HT1 : Hid ((decList bs).take (k + 1) = (decList bs).take k ++ [{ op := z0, a := z1, b := z2, c := z3, imm := z4 }]) := by
                show _ = _
                rw [take_succ_at HA.out, HI.out]
              go_wp2_with fail
              have HBd := Lib.hid HB.out.drew
              have hz3 : w.heap.size ≤ (wo.alloc (.cells #[.int .i64 z0, .int .i64 z1, .int .i64 z2, .int .i64 z3, .int .u64 z4] 47)).heap.size := by simp; omega
              have HOa := Lib.hid ((HO.out.alloc (.cells #[.int .i64 z0, .int .i64 z1, .int .i64 z2, .int .i64 z3, .int .u64 z4] 47)).drew)
              have HBa := Lib.hid ((HB.out.alloc hsz (.cells #[.int .i64 z0, .int .i64 z1, .int .i64 z2, .int .i64 z3, .int .u64 z4] 47)).drew)
              have Ra : Hid (RdI (wo.alloc (.cells #[.int .i64 z0, .int .i64 z1, .int .i64 z2, .int .i64 z3, .int .u64 z4] 47)).drew (wo.heap.size + 1) (some ⟨wo.heap.size, 0, none⟩) 1 [{ op := z0, a := z1, b := z2, c := z3, imm := z4 }]) :=
                (Rd.new wo #[.int .i64 z0, .int .i64 z1, .int .i64 z2, .int .i64 z3, .int .u64 z4] 47 (size := 5) (m := 1) rfl (by simp [maxLen])).drew
              have h1 := insCells_one [{ op := z0, a := z1, b := z2, c := z3, imm := z4 }]
              have h63b : k + 1 ≤ maxLen := by simp only [maxLen]; omega
              have hb40 : (k + 1) * 40 ≤ 140737488355328 := by omega
              have v0 : IntKind.i64.wrap z0 = z0 := by rw [IntKind.wrap_i64]; omega
              have v1 : IntKind.i64.wrap z1 = z1 := by rw [IntKind.wrap_i64]; omega
              have v2 : IntKind.i64.wrap z2 = z2 := by rw [IntKind.wrap_i64]; omega
              have v3 : IntKind.i64.wrap z3 = z3 := by rw [IntKind.wrap_i64]; omega
              go_region_held3 (fun w' => w'.cell? ⟨b', o', none⟩ = some (.int .u8 z0) ∧ w'.cell? ⟨b', o' + 1, none⟩ = some (.int .u8 z1) ∧ w'.cell? ⟨b', o' + 2, none⟩ = some (.int .u8 z2) ∧ w'.cell? ⟨b', o' + 3, none⟩ = some (.int .u8 z3))
                (first | exact ⟨d0, d1, d2, d3⟩ | exact ⟨p0, p1, p2, p3⟩ | go_keep)
                (first
                  | (go_at_call 43
                     refine (HGE.out _ HBd.out).mono ?_
                     rintro e w' ⟨rfl, rfl⟩)
                  | (refine step_app _ (by rfl) _ _ _ (by rfl) w.heap.size 47 i0 _ 5 40 Try.underlying22 hi0 hz0 hz1 hz2 rfl (by decide) _ k _ (by rfl) HOa.out _ _ 1 1 _ (by rfl) Ra.out h1 h63b hb40 hz3 ?_
                     intro v5 w5 hown5 hg5 _
                     have hb5 := below_own HBa.out HOa.out hg5 (Nat.le_refl _) hz3
                     have p0 := (hb5.cell (p := ⟨b', o', none⟩) hbB').trans dw0
                     have p1 := (hb5.cell (p := ⟨b', o' + 1, none⟩) hbB').trans dw1
                     have p2 := (hb5.cell (p := ⟨b', o' + 2, none⟩) hbB').trans dw2
                     have p3 := (hb5.cell (p := ⟨b', o' + 3, none⟩) hbB').trans dw3))
              clear v0 v1 v2 v3
              have HO5 := Lib.hid hown5
              have HB5 := Lib.hid (below_own HBa.out HOa.out hg5 (Nat.le_refl _) hz3)
              clear hown5 hg5
              go_wp2
              go_roundw
              case rel =>
                refine ⟨k + 1, by omega, by go_num, ?_, HB5.out⟩
                rw [HT1.out, insCells_append]
                exact HO5.out
              case measure => simp [intOf]; omega
            · obtain rfl : k = N := by omega
              have HLn := Lib.hid (decList_length HNN.out)
              have HOf : Hid (wo.ownsRow w.heap.size 47 5 u5 (decList bs).length (insCells (decList bs))) := by
                have h := HO.out
                rw [List.take_of_length_le (by rw [HLn.out]; omega)] at h
                rw [HLn.out]; exact h
              obtain ⟨A5, c5, rfl, r5⟩ := Rd.of_own HOf.out
              have HR5 := Lib.hid r5
              clear r5
              cases hp : (decList bs).all Ins.plain
              · have HE : Hid (decCode bs = 30) := by show _ = _; rw [HC2.out, hp]; rfl
                go_wp2_with (go_at_call 41; refine (all_any _ _ _ _ _ HR5.out).mono ?_; rintro e w1 ⟨rfl, hb1⟩)
                go_ret2
                exact DecPost.bad HE.out (by decide) (HB.out.trans (hb1.mono hsz))
              · have HE : Hid (decCode bs = 0) := by show _ = _; rw [HC2.out, hp]; rfl
                go_wp2_with (go_at_call 41; refine (all_any _ _ _ _ _ HR5.out).mono ?_; rintro e w1 ⟨rfl, hb1⟩)
                go_ret2
                have : DecPost bs w (.returned (.tuple #[.slice A5 (decList bs).length c5, .int .i64 (decCode bs)])) w1 := by
                  refine ⟨_, rfl, ?_, HB.out.trans (hb1.mono hsz)⟩
                  rw [decIns, if_pos HE.out]
                  exact own_below HOf.out hb1
                rw [HE.out] at this
                exact this
  · rw [decide_eq_false hx] at hb2
    have HE : Hid (decCode bs = 33) := by show _ = _; rw [HC.out, if_pos (by omega)]
    clear hx HC hy HND
    go_enter Try.func18, Try.ntmps18
    go_wp2
    go_ret2
    exact DecPost.bad HE.out (by decide) (Below.refl _ _)

theorem rdecode_any (bs : List Int) (A : Option Addr) (n c : Nat) (w : World) (hr : RdB w w.heap.size A n bs) (hy : Byts bs) (hnc : n ≤ c) :
    Calls Try.prog 18 #[.slice A n c] w (DecPost bs w) := by
  by_cases h4 : n < 4
  · exact rdecode_lt bs A n c w hr hnc h4
  · obtain ⟨b, o, rfl, hb⟩ := hr.addr (by omega)
    exact rdecode_go bs b o n c w hr hy hnc (by omega)
end Go.Proofs.Ytkkbgpfimapnoaa
