/-
  Chapter 3: the document's example: tumblerlaw03.alive is true.
-/
import Derived.Test.YtkkbgpfimapnoaaCtrL
import Derived.Test.YtkkbgpfimapnoaaCtrM
namespace Go.Proofs.Ytkkbgpfimapnoaa
open Go.RowKit
set_option linter.unusedVariables false

def liveIns : List Ins := [{ op := 0, a := 1, b := 0, c := 0, imm := 258 }, { op := 20, a := 1, b := 0, c := 0, imm := 0 }]
def liveBytes : List Int := [84, 66, 2, 0, 0, 1, 0, 0, 2, 1, 0, 0, 0, 0, 0, 0, 20, 1, 0, 0, 0, 0, 0, 0, 0, 0, 0, 0]
theorem live_code : encCode liveIns = 0 := by decide
theorem live_bytes : encBytes liveIns = liveBytes := by decide
theorem live_dec : decCode liveBytes = 0 := by decide
theorem live_ins : decIns liveBytes = liveIns := by decide
theorem nil_dec : decCode [] = 34 := by decide
theorem live_of : ofFind ⟨#[114, 101, 97, 100, 97, 116]⟩ = some 12 := by decide +kernel
theorem live_ok : ∀ i ∈ liveIns, i.Ok := by
  intro i hi
  simp [liveIns] at hi
  rcases hi with rfl | rfl <;> constructor <;> decide

set_option maxHeartbeats 4000000 in
theorem alive_any (w : World) : Calls Try.prog 13 #[] w fun e w' => e = .returned (.bool true) ∧ Below w.heap.size w w' := by
  go_enter Try.func13, Try.ntmps13
  go_wp2_with fail
  have r0 : RdI (w.alloc (.cells #[.int .i64 0, .int .i64 1, .int .i64 0, .int .i64 0, .int .u64 258, .int .i64 20, .int .i64 1, .int .i64 0, .int .i64 0, .int .u64 0] 47)) (w.alloc (.cells #[.int .i64 0, .int .i64 1, .int .i64 0, .int .i64 0, .int .u64 258, .int .i64 20, .int .i64 1, .int .i64 0, .int .i64 0, .int .u64 0] 47)).heap.size (some ⟨w.heap.size, 0, none⟩) 2 liveIns :=
    (Rd.new w _ _ (size := 5) (m := 2) rfl (by simp [maxLen])).more (by simp)
  refine (encode_any liveIns _ 2 2 _ r0 live_ok).mono ?_
  rintro e w1 ⟨v1, m1, rfl, hown1, hb1⟩
  have h28 : m1 = 28 := by
    have := hown1.1
    rw [live_bytes] at this
    simpa [byt, liveBytes] using this.symm
  subst h28
  rw [live_bytes] at hown1
  rw [live_code]
  obtain ⟨A1, c1, rfl, hc1, r1⟩ := Rd.of_own_cap hown1
  have B1 := Lib.hid (((Below.refl w.heap.size w).alloc (Nat.le_refl _) _).trans (hb1.mono (by simp)))
  clear hown1 hb1 r0
  have R1 := Lib.hid r1
  clear r1
  go_wp2_with fail
  refine (decode_any liveBytes A1 28 c1 _ R1.out (by unfold Byts; decide) hc1).mono ?_
  rintro e w2 ⟨v2, rfl, hown2, hb2⟩
  rw [live_ins, show liveIns.length = 2 from rfl] at hown2
  rw [live_dec]
  obtain ⟨A2, c2, rfl, r2⟩ := Rd.of_own hown2
  have B2 := Lib.hid (B1.out.trans (hb2.mono B1.out.size))
  have R1b := Lib.hid (R1.out.below hb2)
  have R2 := Lib.hid r2
  have hz2 := hb2.size
  clear hown2 hb2 r2
  go_wp2_with fail
  refine (decode_any [] none 0 0 _ (Rd.nil _ _ _ _) (by unfold Byts; decide) (Nat.le_refl _)).mono ?_
  rintro e w3 ⟨v3, rfl, hown3, hb3⟩
  rw [nil_dec]
  have B3 := Lib.hid (B2.out.trans (hb3.mono B2.out.size))
  have R1c := Lib.hid (R1b.out.below (hb3.mono hz2))
  have R2c := Lib.hid (R2.out.below hb3)
  have hz3 := hb3.size
  clear hown3 hb3
  go_wp2_with fail
  refine (of_any _ _).mono ?_
  rintro e w4 ⟨rfl, rfl⟩
  rw [live_of]
  go_wp2_with fail
  refine (uses_any _ _).mono ?_
  rintro e w5 ⟨rfl, hb5⟩
  have B5 := Lib.hid (B3.out.trans (hb5.mono B3.out.size))
  have R1d := R1c.out.below (hb5.mono (Nat.le_trans hz2 hz3))
  have R2d := R2c.out.below (hb5.mono hz3)
  clear hb5
  have u0 : decide (0 < regsOf 12) = true := by decide
  have u1 : decide (1 < regsOf 12) = true := by decide
  have u2 : decide (2 < regsOf 12) = true := by decide
  have u3 : immOf 12 = false := by decide
  rw [u0, u1, u2, u3]
  obtain ⟨A3, s3, r3⟩ := cut_h (P := Try.prog) 23 elem_u8s size_u8s R1d hc1 8 8 rfl (by omega)
  rw [byt_take, Nat.mul_one] at r3
  have hcv := conv_str (P := Try.prog) (c := c1) 23 9 5 Try.underlying23 Try.underlying5 Try.underlying9 r3
  have hs : (strOfNums (liveBytes.take 8)).toList = [84, 66, 2, 0, 0, 1, 0, 0] := by decide +kernel
  generalize strOfNums (liveBytes.take 8) = s at hcv hs
  obtain ⟨b1, o1, rfl, hbb1⟩ := R1d.addr (by omega)
  have e8 : w5.cell? ⟨b1, o1 + 8, none⟩ = some (.int .u8 2) := R1d.getD_ (k := 8) (by omega)
  have e9 : w5.cell? ⟨b1, o1 + 9, none⟩ = some (.int .u8 1) := R1d.getD_ (k := 9) (by omega)
  obtain ⟨b2, o2, i0, rfl, hbb2, hi0, f0, f1, f2, f3, f4⟩ := Rd.insAt (l := liveIns) R2d (k := 0) (by omega)
  obtain ⟨b2', o2', i1, he, _, hi1, g0, g1, g2, g3, g4⟩ := Rd.insAt (l := liveIns) R2d (k := 1) (by omega)
  cases he
  have hi0' : i0 = { op := 0, a := 1, b := 0, c := 0, imm := 258 } := by simpa [liveIns] using hi0.symm
  have hi1' : i1 = { op := 20, a := 1, b := 0, c := 0, imm := 0 } := by simpa [liveIns] using hi1.symm
  subst hi0'
  subst hi1'
  have hnm : nameOf 20 = ⟨#[114, 101, 116, 117, 114, 110]⟩ := by decide
  have p1 : plainB 20 1 0 0 0 = true := by decide
  have p2 : plainB (-1) 0 0 0 0 = false := by decide
  have HP2 := Lib.hid p2
  have HP1 := Lib.hid p1
  have HNM := Lib.hid hnm
  clear hi0 hi1 R1d R2d r3 p1 p2 hnm u0 u1 u2 u3
  simp only [Nat.zero_mul, Nat.one_mul, Nat.add_zero] at f0 f1 f2 f3 f4 g0 g1 g2 g3 g4
  go_wp2_with fail
  refine (name_any _ _).mono ?_
  rintro e w6 ⟨rfl, rfl⟩
  rw [HNM.out]
  go_wp2_with fail
  refine (plain_any _ _ _ _ _ _).mono ?_
  rintro e w7 ⟨rfl, hb7⟩
  rw [HP1.out]
  have B7 := Lib.hid (B5.out.trans (hb7.mono B5.out.size))
  clear hb7
  go_wp2_with fail
  refine (plain_any _ _ _ _ _ _).mono ?_
  rintro e w8 ⟨rfl, hb8⟩
  rw [HP2.out]
  have B8 := Lib.hid (B7.out.trans (hb8.mono B7.out.size))
  clear hb8
  go_wp2
  go_ret
  exact ⟨rfl, B8.out⟩
end Go.Proofs.Ytkkbgpfimapnoaa
