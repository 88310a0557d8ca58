/-
  Chapter 2: contract of tumblerref02.Print. Printed by gen/glyo.py.
-/
import Derived.Test.YthfienjmajllpaaDoorGlyI
import Derived.Test.YthfienjmajllpaaDoorGlyN
namespace Go.Proofs.YthfienjmajllpaaDoor
open Go.RowKit
set_option linter.unusedVariables false

theorem app_data (a b : ByteArray) : (a ++ b).data.toList = a.data.toList ++ b.data.toList := by rw [ByteArray.data_append, Array.toList_append]
theorem size_list (a : ByteArray) : a.size = a.data.toList.length := rfl
set_option maxRecDepth 100000 in
set_option maxHeartbeats 8000000 in
theorem rprint_any (l : List Tok) (A : Option Addr) (n c : Nat) (w : World) (hr : RdT w w.heap.size A n l) (hok : ∀ t ∈ l, t.Ok) (hlen : (printP l).length ≤ 140737488355328) :
    Calls Tryd.prog 11 #[.slice A n c] w (PrintPost l w) := by
  have h63 := hr.le
  unfold maxLen at h63
  have HL := Lib.hid hr.tokLen
  have HR := Lib.hid hr
  have HK := Lib.hid hok
  have HLn := Lib.hid hlen
  clear hr hok hlen
  go_enter Tryd.func11, Tryd.ntmps11
  go_wp2
  go_loopw [5, 3, 4, 6] (fun t tv fr _u wr => ∃ (k : Nat) (fresh : Bool) (T : ByteArray), (k ≤ n ∧ t = .int .i64 k ∧ fr = .bool fresh ∧ tv = .string T ∧ T.size ≤ 140737488355328) ∧ Hid (T.data.toList ++ printGo (l.drop k) fresh = printP l) ∧ Below w.heap.size w wr) (fun t _ _ _ _ => n - (intOf t).toNat)
  case atStart => exact ⟨0, true, ⟨#[]⟩, ⟨by omega, rfl, rfl, rfl, by decide⟩, rfl, Below.refl _ _⟩
  case round =>
    obtain ⟨k, fresh, T, ⟨hk, rfl, rfl, rfl, hT⟩, HA, hb⟩ := hrel
    have HB := Lib.hid hb
    have hsz := hb.size
    clear hb
    by_cases hlt : k < n
    · obtain ⟨b0, o0, t, hAd, hbB, ht, c0, c1, c2, c3, c4⟩ := (HR.out.below HB.out).tokAt hlt
      subst hAd
      have HD := Lib.hid (drop_at ht)
      have HOk := Lib.hid (HK.out t (List.mem_of_getElem? ht))
      rw [HD.out, printGo] at HA
      have hnum := HOk.out.num
      clear ht
      obtain ⟨kind, text, num, at_, line⟩ := t
      simp only at c0 c1 c2 c3 c4 hnum
      by_cases h3 : kind = 3
      · subst h3
        rw [if_pos rfl] at HA
        have HA1 : Hid ((T ++ ⟨#[10]⟩).data.toList ++ printGo (l.drop (k + 1)) true = printP l) := by
          show _ = _
          rw [← HA.out, app_data]; simp
        have HS1 : Hid ((T ++ ⟨#[10]⟩).size ≤ 140737488355328) := by
          have h := congrArg List.length HA1.out
          rw [List.length_append] at h
          have := HLn.out
          show _ ≤ _
          rw [size_list]; omega
        go_wp2
        go_roundw
        case rel => exact ⟨k + 1, true, _, ⟨by omega, by go_num, rfl, rfl, HS1.out⟩, HA1, HB.out.alloc hsz _⟩
        case measure => simp [intOf]; omega
      · rw [if_neg h3] at HA
        have hb3 : (kind == 3) = false := by simpa using h3
        by_cases hout : kind < 0 ∨ 3 < kind
        · rw [if_pos hout] at HA
          by_cases h : kind < 0
          · go_wp2
            go_roundw
            case rel => exact ⟨k + 1, fresh, _, ⟨by omega, by go_num, rfl, rfl, hT⟩, HA, HB.out.alloc hsz _⟩
            case measure => simp [intOf]; omega
          · have h' : 3 < kind := by omega
            go_wp2
            go_roundw
            case rel => exact ⟨k + 1, fresh, _, ⟨by omega, by go_num, rfl, rfl, hT⟩, HA, HB.out.alloc hsz _⟩
            case measure => simp [intOf]; omega
        · rw [if_neg hout] at HA
          have h0 : ¬ kind < 0 := by omega
          have h4 : ¬ 3 < kind := by omega
          clear hout
          obtain ⟨u, hu⟩ : ∃ u : Nat, num = (u : Int) := ⟨num.toNat, by omega⟩
          subst hu
          have hu64 : u < 18446744073709551616 := by omega
          have HTx : Hid (tokText ⟨kind, text, (u : Int), at_, line⟩ = if kind = 1 then Lib.decDigits u else text.data.toList) := by
            show _ = _
            rw [tokText]; simp only [Int.toNat_natCast]
          rw [HTx.out] at HA
          cases fresh
          · simp only [Bool.false_eq_true, if_false] at HA
            have HA' : Hid ((T ++ ⟨#[32]⟩).data.toList ++ ((if kind = 1 then Lib.decDigits u else text.data.toList) ++ printGo (l.drop (k + 1)) false) = printP l) := by
              show _ = _
              rw [← HA.out, app_data]; simp
            have hS' : (T ++ ⟨#[32]⟩).size ≤ 140737488355328 := by
              have h := congrArg List.length HA'.out
              rw [List.length_append] at h
              have := HLn.out
              rw [size_list]; omega
            by_cases h1 : kind = 1
            · subst h1
              rw [if_pos rfl] at HA'
              have HA1 : Hid (((T ++ ⟨#[32]⟩) ++ ⟨(Lib.decDigits u).toArray⟩).data.toList ++ printGo (l.drop (k + 1)) false = printP l) := by
                show _ = _
                rw [← HA'.out, app_data]; simp
              have HS1 : Hid (((T ++ ⟨#[32]⟩) ++ ⟨(Lib.decDigits u).toArray⟩).size ≤ 140737488355328) := by
                have h := congrArg List.length HA1.out
                rw [List.length_append] at h
                have := HLn.out
                show _ ≤ _
                rw [size_list]; omega
              obtain ⟨DG, hDG⟩ : ∃ DG : ByteArray, (⟨(Lib.decDigits u).toArray⟩ : ByteArray) = DG := ⟨_, rfl⟩
              rw [hDG] at HA1 HS1
              have hDs : DG.size ≤ 20 := by
                rw [← hDG]
                show (Lib.decDigits u).toArray.size ≤ 20
                rw [List.size_toArray, Lib.decDigits_length]; exact Lib.nDigits_le20 u hu64
              have HDG := Lib.hid hDG
              clear hDG
              go_wp2_with fail
              refine (rdigits_any u hu64 _).mono ?_
              rintro e w2 ⟨rfl, hb2⟩
              rw [HDG.out]
              have HB2 := Lib.hid ((HB.out.alloc hsz (.cells #[.int .i64 1, .string text, .int .u64 (u : Int), .int .i64 at_, .int .i64 line] 37)).trans (hb2.mono (by simp; omega)))
              clear hb2
              go_wp2
              go_roundw
              case rel => exact ⟨k + 1, false, _, ⟨by omega, by go_num, rfl, rfl, HS1.out⟩, HA1, HB2.out⟩
              case measure => simp [intOf]; omega
            · rw [if_neg h1] at HA'
              have hb1 : (kind == 1) = false := by simpa using h1
              have HA1 : Hid (((T ++ ⟨#[32]⟩) ++ text).data.toList ++ printGo (l.drop (k + 1)) false = printP l) := by
                show _ = _
                rw [← HA'.out, app_data]; simp
              have HS1 : Hid (((T ++ ⟨#[32]⟩) ++ text).size ≤ 140737488355328) := by
                have h := congrArg List.length HA1.out
                rw [List.length_append] at h
                have := HLn.out
                show _ ≤ _
                rw [size_list]; omega
              have htx : text.size ≤ 140737488355328 := by
                have h := congrArg List.length HA'.out
                rw [List.length_append, List.length_append] at h
                have := HLn.out
                rw [size_list]; omega
              go_wp2
              go_roundw
              case rel => exact ⟨k + 1, false, _, ⟨by omega, by go_num, rfl, rfl, HS1.out⟩, HA1, HB.out.alloc hsz _⟩
              case measure => simp [intOf]; omega
          · simp only [if_true] at HA
            have HA' : Hid (T.data.toList ++ ((if kind = 1 then Lib.decDigits u else text.data.toList) ++ printGo (l.drop (k + 1)) false) = printP l) := by
              show _ = _
              rw [← HA.out]; simp
            have hS' : T.size ≤ 140737488355328 := by
              have h := congrArg List.length HA'.out
              rw [List.length_append] at h
              have := HLn.out
              rw [size_list]; omega
            by_cases h1 : kind = 1
            · subst h1
              rw [if_pos rfl] at HA'
              have HA1 : Hid ((T ++ ⟨(Lib.decDigits u).toArray⟩).data.toList ++ printGo (l.drop (k + 1)) false = printP l) := by
                show _ = _
                rw [← HA'.out, app_data]; simp
              have HS1 : Hid ((T ++ ⟨(Lib.decDigits u).toArray⟩).size ≤ 140737488355328) := by
                have h := congrArg List.length HA1.out
                rw [List.length_append] at h
                have := HLn.out
                show _ ≤ _
                rw [size_list]; omega
              obtain ⟨DG, hDG⟩ : ∃ DG : ByteArray, (⟨(Lib.decDigits u).toArray⟩ : ByteArray) = DG := ⟨_, rfl⟩
              rw [hDG] at HA1 HS1
              have hDs : DG.size ≤ 20 := by
                rw [← hDG]
                show (Lib.decDigits u).toArray.size ≤ 20
                rw [List.size_toArray, Lib.decDigits_length]; exact Lib.nDigits_le20 u hu64
              have HDG := Lib.hid hDG
              clear hDG
              go_wp2_with fail
              refine (rdigits_any u hu64 _).mono ?_
              rintro e w2 ⟨rfl, hb2⟩
              rw [HDG.out]
              have HB2 := Lib.hid ((HB.out.alloc hsz (.cells #[.int .i64 1, .string text, .int .u64 (u : Int), .int .i64 at_, .int .i64 line] 37)).trans (hb2.mono (by simp; omega)))
              clear hb2
              go_wp2
              go_roundw
              case rel => exact ⟨k + 1, false, _, ⟨by omega, by go_num, rfl, rfl, HS1.out⟩, HA1, HB2.out⟩
              case measure => simp [intOf]; omega
            · rw [if_neg h1] at HA'
              have hb1 : (kind == 1) = false := by simpa using h1
              have HA1 : Hid ((T ++ text).data.toList ++ printGo (l.drop (k + 1)) false = printP l) := by
                show _ = _
                rw [← HA'.out, app_data]; simp
              have HS1 : Hid ((T ++ text).size ≤ 140737488355328) := by
                have h := congrArg List.length HA1.out
                rw [List.length_append] at h
                have := HLn.out
                show _ ≤ _
                rw [size_list]; omega
              have htx : text.size ≤ 140737488355328 := by
                have h := congrArg List.length HA'.out
                rw [List.length_append, List.length_append] at h
                have := HLn.out
                rw [size_list]; omega
              go_wp2
              go_roundw
              case rel => exact ⟨k + 1, false, _, ⟨by omega, by go_num, rfl, rfl, HS1.out⟩, HA1, HB.out.alloc hsz _⟩
              case measure => simp [intOf]; omega
    · obtain rfl : n = k := by omega
      have HA1 : Hid (T.data.toList = printP l) := by
        show _ = _
        rw [← HA.out, List.drop_of_length_le (by rw [HL.out]; exact Nat.le_refl _), printGo]; simp
      go_wp2
      go_ret
      exact ⟨by rw [← HA1.out]; rfl, HB.out⟩
end Go.Proofs.YthfienjmajllpaaDoor
