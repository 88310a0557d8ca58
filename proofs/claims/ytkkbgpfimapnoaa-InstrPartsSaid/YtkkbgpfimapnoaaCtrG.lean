/-
  Chapter 3: contracts of tumblerref03.Num, Get, Check.
-/
import Derived.Test.YtkkbgpfimapnoaaCtrF
import Derived.Test.YtkkbgpfimapnoaaOwn
namespace Go.Proofs.Ytkkbgpfimapnoaa
open Go.RowKit
set_option linter.unusedVariables false

theorem info_u8 : (Try.prog.info? 5).map (fun i => (i.zero, i.size, i.bytes)) = some (some (.int .u8 0), 1, 1) := by kernel_rfl
theorem info_ins : (Try.prog.info? 47).map (fun i => (i.zero, i.size, i.bytes)) = some (some (.agg #[.int .i64 0, .int .i64 0, .int .i64 0, .int .i64 0, .int .u64 0]), 5, 40) := by kernel_rfl

/-- A number's lowest bytes, the lowest first. -/
def numL (n : Int) (k : Nat) : List Int := (List.range k).map fun j => n / 256 ^ j % 256
theorem numL_snoc (n : Int) (k : Nat) : numL n (k + 1) = numL n k ++ [n / 256 ^ k % 256] := by simp [numL, List.range_succ]
theorem numL_length (n : Int) (k : Nat) : (numL n k).length = k := by simp [numL]

theorem num_any (x sz : Int) (size : Nat) (w : World) (h0 : 0 ≤ x) (h1 : x ≤ 18446744073709551615) (hs : size ≤ 1000) (hz : sz = size) :
    Calls Try.prog 42 #[.int .u64 x, .int .i64 sz] w fun e w' => ∃ v, e = .returned v ∧ w'.ownsRow w.heap.size 5 1 v size (byt (numL x size)) ∧ Below w.heap.size w w' := by
  obtain ⟨i0, hi0, hz0, hz1, hz2⟩ := info_parts info_u8
  subst hz
  go_enter Try.func42, Try.ntmps42
  go_wp2
  go_loopw [0, 5, 6] (fun n v k wr => ∃ j : Nat, j ≤ size ∧ n = .int .u64 (x / 256 ^ j) ∧ k = .int .i64 j ∧ wr.ownsRow w.heap.size 5 1 v j (byt (numL x j)) ∧ Below w.heap.size w wr) (fun _ _ k _ => size - (intOf k).toNat)
  case atStart => exact ⟨0, by omega, by simp, rfl, World.ownsRow_made w #[] 0 (Nat.le_refl _) (by simp [maxLen]) rfl, (Below.refl _ _).alloc (Nat.le_refl _) _⟩
  case round =>
    obtain ⟨j, hj, rfl, rfl, hown, hb⟩ := hrel
    have hsz := hb.size
    by_cases hlt : j < size
    · have y0 : 0 ≤ x / 256 ^ j := Int.ediv_nonneg h0 (Int.pow_nonneg (by decide))
      have y1 : x / 256 ^ j ≤ 18446744073709551615 := Int.le_trans (Int.ediv_le_self _ h0) h1
      have HN := Lib.hid (numL_snoc x j)
      have HD : Hid (x / 256 ^ j / 256 = x / 256 ^ (j + 1)) := by
        show _ = _
        rw [Int.ediv_ediv_of_nonneg (Int.pow_nonneg (by decide)), Int.pow_succ]
      generalize x / 256 ^ j = y at *
      have HO := Lib.hid hown
      have HB := Lib.hid hb
      clear hown hb
      go_wp2_with (
        at_builtin
        refine wpList_app _ rfl (.tmp 13) (.tmp 17) 23 rfl w.heap.size 5 i0 _ 1 1 Try.underlying23 hi0 hz0 hz1 hz2 rfl (by omega) _ j _ rfl (HO.out.alloc _) _ _ 1 1 (byt [y % 256]) rfl (Rd.new wr #[.int .u8 (y % 256)] 5 rfl (by simp [maxLen])) (byt_one _) ?_ ?_ ?_ ?_
        · simp only [maxLen]; omega
        · omega
        · simp; omega
        intro v' w1 hown1 hg1 _
        have HO1 := Lib.hid hown1
        have HB1 := Lib.hid (below_own (HB.out.alloc hsz _) (HO.out.alloc _) hg1 (Nat.le_refl _) (by simp; omega))
        clear hown1 hg1)
      go_roundw
      case rel => exact ⟨j + 1, by omega, by rw [HD.out], by go_num, by rw [HN.out, byt_append]; exact HO1.out, HB1.out⟩
      case measure => simp [intOf]; omega
    · obtain rfl : j = size := by omega
      go_wp2
      go_ret
      exact ⟨_, rfl, hown, hb⟩
/-- The number of some bytes, the lowest first. -/
def getL : List Int → Int
  | [] => 0
  | b :: r => b + 256 * getL r
theorem getL_bd (l : List Int) (h : Byts l) : 0 ≤ getL l ∧ getL l < 256 ^ l.length := by
  induction l with
  | nil => simp [getL]
  | cons b r ih =>
    have hb := h b (by simp)
    have hr := ih (fun x hx => h x (by simp [hx]))
    simp only [getL, List.length_cons, Int.pow_succ]
    omega

theorem get_any (bs : List Int) (A : Option Addr) (n c : Nat) (w : World) (hr : RdB w w.heap.size A n bs) (hy : Byts bs) (h8 : n ≤ 8) :
    Calls Try.prog 43 #[.slice A n c] w fun e w' => e = .returned (.int .u64 (getL bs)) ∧ w = w' := by
  have hl := Lib.hid hr.bytLen
  have HR := Lib.hid hr
  have HY := Lib.hid hy
  clear hr hy
  go_enter Try.func43, Try.ntmps43
  go_wp2
  go_loop [3, 4] (fun s k => ∃ j : Nat, j ≤ n ∧ k = .int .i64 ((j : Int) - 1) ∧ s = .int .u64 (getL (bs.drop j))) (fun _ k => (intOf k + 1).toNat)
  case atStart => exact ⟨n, by omega, rfl, by rw [List.drop_of_length_le (by rw [hl.out]; omega)]; rfl⟩
  case round =>
    obtain ⟨j, hj, rfl, rfl⟩ := hrel
    rcases j with _ | j
    · go_wp2
      go_ret
      exact ⟨by simp, rfl⟩
    · obtain ⟨b, o, x, rfl, hb, hx, hc⟩ := HR.out.bytAt (k := j) (by omega)
      have HX := Lib.hid hx
      clear hx
      have hjl : j < bs.length := by rw [hl.out]; omega
      have x0 := HY.out x (List.mem_of_getElem? HX.out)
      have HG : Hid (getL (bs.drop j) = x + 256 * getL (bs.drop (j + 1))) := by
        show _ = _
        rw [List.drop_eq_getElem_cons hjl]
        have e := HX.out
        rw [List.getElem?_eq_getElem hjl] at e
        injection e with e
        rw [e]; rfl
      have hg := getL_bd (bs.drop (j + 1)) (fun y hy => HY.out y (List.mem_of_mem_drop hy))
      have hp : (256 : Int) ^ (bs.drop (j + 1)).length ≤ 72057594037927936 := by
        have h := Nat.pow_le_pow_right (n := 256) (by decide) (show (bs.drop (j + 1)).length ≤ 7 by rw [List.length_drop, hl.out]; omega)
        have h2 : (((256 : Nat) ^ (bs.drop (j + 1)).length : Nat) : Int) ≤ ((256 ^ 7 : Nat) : Int) := Int.ofNat_le.2 h
        rw [Int.natCast_pow] at h2
        exact h2
      have g0 : 0 ≤ getL (bs.drop (j + 1)) := hg.1
      have g1 : getL (bs.drop (j + 1)) < 72057594037927936 := by have := hg.2; omega
      have g2 : 256 * getL (bs.drop (j + 1)) + x ≤ 18446744073709551615 := by omega
      clear hg hp
      generalize getL (bs.drop (j + 1)) = g at *
      have e : ((j + 1 : Nat) : Int) - 1 = (j : Int) := by omega
      rw [e]
      clear e
      go_wp2
      go_round
      case rel => exact ⟨j, by omega, rfl, by rw [HG.out]; congr 1; omega⟩
      case measure => simp [intOf]

theorem check_any (l : List Ins) (A : Option Addr) (n c : Nat) (w : World) (hr : RdI w w.heap.size A n l) :
    Calls Try.prog 15 #[.slice A n c] w fun e w' => e = .returned (.int .i64 (if 256 < l.length then 3 else if l.all Ins.plain then 0 else 30)) ∧ Below w.heap.size w w' := by
  have h63 := hr.le
  have hl := hr.insLen
  have HR := Lib.hid hr
  clear hr
  subst hl
  unfold maxLen at h63
  by_cases h : 256 < l.length
  · go_enter Try.func15, Try.ntmps15
    go_wp2
    go_ret
    exact ⟨rfl, Below.refl _ _⟩
  · cases hp : l.all Ins.plain
    all_goals
      go_enter Try.func15, Try.ntmps15
      go_wp2_with (go_at_call 41; refine (all_any _ _ _ _ _ HR.out).mono ?_; rintro e w1 ⟨rfl, hb1⟩)
      go_ret
      exact ⟨rfl, hb1⟩
end Go.Proofs.Ytkkbgpfimapnoaa
