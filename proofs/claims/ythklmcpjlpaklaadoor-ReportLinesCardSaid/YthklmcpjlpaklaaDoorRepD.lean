/-
  Chapter 25: contract of tumblerref02.Digits (as for chapter 2).
-/
import Derived.Test.YthklmcpjlpaklaaDoorRepA
import Derived.Test.YthklmcpjlpaklaaDoorOwn2
import Derived.Lib.ItoaLen
namespace Go.Proofs.YthklmcpjlpaklaaDoor
open Go.RowKit
set_option linter.unusedVariables false

theorem dec_small {m : Nat} (h : m < 10) : Lib.decDigits m = [UInt8.ofNat (48 + m)] := by rw [Lib.decDigits, dif_pos h]
theorem dec_big {m : Nat} (h : ¬ m < 10) : Lib.decDigits m = Lib.decDigits (m / 10) ++ [UInt8.ofNat (48 + m % 10)] := by rw [Lib.decDigits, dif_neg h]
theorem str_one (x : Int) (T : ByteArray) : (strOfNums [x] ++ T).data.toList = UInt8.ofNat x.toNat :: T.data.toList := by
  rw [ByteArray.data_append, Array.toList_append, strOfNums_data]; rfl
theorem toList_nil {T : ByteArray} : (T.toList == []) = decide (T.data.toList = []) := by
  rw [ByteArray.toList_eq, Bool.eq_iff_iff]; simp
theorem dig_x (m : Nat) : ((48 + (m : Int) % 10) % 256).toNat = 48 + m % 10 := by omega

set_option maxRecDepth 100000 in
set_option maxHeartbeats 4000000 in
theorem rdigits_any (u : Nat) (hu64 : u < 18446744073709551616) (w : World) :
    Calls Tryd.prog 40 #[.int .u64 u] w fun e w' => e = .returned (.string ⟨(Lib.decDigits u).toArray⟩) ∧ Below w.heap.size w w' := by
  have HN : Hid ((Lib.decDigits u).length ≤ 20) := by show _ ≤ _; rw [Lib.decDigits_length]; exact Lib.nDigits_le20 u hu64
  have HU := Lib.hid hu64
  clear hu64
  go_enter Tryd.func40, Tryd.ntmps40
  go_wp2
  go_loopw [0, 3] (fun x t wr => ∃ (m : Nat) (T : ByteArray), (x = .int .u64 m ∧ t = .string T ∧ m < 18446744073709551616 ∧ T.size ≤ 20) ∧ Hid ((T.data.toList = [] ∧ m = u) ∨ (T.data.toList ≠ [] ∧ 1 ≤ m ∧ Lib.decDigits m ++ T.data.toList = Lib.decDigits u)) ∧ Below w.heap.size w wr) (fun x _ _ => (intOf x).toNat + 0)
  case atStart => exact ⟨u, ⟨#[]⟩, ⟨rfl, rfl, HU.out, by decide⟩, .inl ⟨rfl, rfl⟩, Below.refl _ _⟩
  case round =>
    obtain ⟨m, T, ⟨rfl, rfl, hm64, hT20⟩, HI, hb⟩ := hrel
    have hsz := hb.size
    have HB := Lib.hid hb
    clear hb
    have hcv : ∀ x : Int, (convert 100 9 (.slice (some ⟨wr.heap.size, 0, none⟩) 1 1)).run Tryd.prog (wr.alloc (.cells #[.int .u8 x] 5)) = .ok (.string (strOfNums [x])) (wr.alloc (.cells #[.int .u8 x] 5)) := fun x =>
      conv_str (P := Tryd.prog) (c := 1) (l := [x]) 100 9 5 Tryd.underlying100 Tryd.underlying5 Tryd.underlying9 (Rd.new wr #[.int .u8 x] 5 rfl (by simp [maxLen]))
    have hsl : ∀ x : Int, (strOfNums [x]).size = 1 := fun x => strOfNums_size _
    by_cases h9 : 9 < m
    · have h9' : (9 : Int) < (m : Int) := by omega
      have h0 : ((m : Int) / 10 == 0) = false := by rw [beq_eq_false_iff_ne]; omega
      have HM : Hid ((strOfNums [48 + (m : Int) % 10] ++ T).data.toList ≠ [] ∧ 1 ≤ m / 10 ∧ Lib.decDigits (m / 10) ++ (strOfNums [48 + (m : Int) % 10] ++ T).data.toList = Lib.decDigits u) := by
        rw [str_one, show (48 + (m : Int) % 10).toNat = 48 + m % 10 by omega]
        refine ⟨by simp, by omega, ?_⟩
        rcases HI.out with ⟨h, rfl⟩ | ⟨_, _, h⟩
        · rw [h, ← dec_big (by omega)]
        · rw [← h, dec_big (show ¬ m < 10 by omega)]; simp
      have HZ : Hid ((strOfNums [48 + (m : Int) % 10] ++ T).size ≤ 20) := by
        have h := congrArg List.length HM.out.2.2
        rw [List.length_append] at h
        have h20 := HN.out
        have e : (strOfNums [48 + (m : Int) % 10] ++ T).size = (strOfNums [48 + (m : Int) % 10] ++ T).data.toList.length := rfl
        show _ ≤ _
        omega
      go_wp2
      go_roundw
      case rel => exact ⟨m / 10, _, ⟨by simp, rfl, by omega, HZ.out⟩, .inr HM.out, HB.out.alloc hsz _⟩
      case measure => simp only [intOf]; omega
    · have h9' : ¬ (9 : Int) < (m : Int) := by omega
      by_cases hT : T.data.toList = []
      · have hTe : (T.toList == []) = true := by rw [toList_nil]; exact decide_eq_true hT
        have h0 : ((m : Int) / 10 == 0) = true := by rw [beq_iff_eq]; omega
        have HE : Hid (strOfNums [48 + (m : Int) % 10] ++ T = ⟨(Lib.decDigits u).toArray⟩) := by
          obtain rfl : m = u := by
            rcases HI.out with ⟨_, h⟩ | ⟨h, _⟩
            · exact h
            · exact absurd hT h
          apply ByteArray.ext
          apply Array.toList_inj.1
          rw [str_one, show (48 + (m : Int) % 10).toNat = 48 + m by omega, hT, dec_small (by omega)]
        go_wp2
        go_ret
        exact ⟨by rw [HE.out]; rfl, HB.out.alloc hsz _⟩
      · have hTe : (T.toList == []) = false := by rw [toList_nil]; exact decide_eq_false hT
        have HE : Hid (strOfNums [48 + (m : Int)] ++ T = ⟨(Lib.decDigits u).toArray⟩) := by
          rcases HI.out with ⟨h, _⟩ | ⟨_, _, h⟩
          · exact absurd h hT
          apply ByteArray.ext
          apply Array.toList_inj.1
          rw [str_one, show (48 + (m : Int)).toNat = 48 + m by omega, ← h, dec_small (by omega)]; rfl
        go_wp2
        go_ret
        exact ⟨by rw [HE.out]; rfl, HB.out.alloc hsz _⟩
end Go.Proofs.YthklmcpjlpaklaaDoor
