/-
  Chapter 2: the law GlyphNumbers: the walk.
-/
import Derived.Test.YthfienjmajllpaaDoorLexP
import Derived.Test.YthfienjmajllpaaDoorGlyN
import Derived.Test.YthfienjmajllpaaDoorGlyR
namespace Go.Proofs.YthfienjmajllpaaDoor
open Go.RowKit
set_option linter.unusedVariables false

def numTok (u : Nat) : Tok := ⟨1, ⟨#[]⟩, u, 0, 0⟩
def numText (u : Nat) : ByteArray := ⟨(Lib.decDigits u).toArray⟩
theorem numText_list (u : Nat) : (numText u).data.toList = Lib.decDigits u := by simp [numText]
theorem numText_size (u : Nat) (hu : u < 18446744073709551616) : (numText u).size ≤ 20 := by
  show (Lib.decDigits u).toArray.size ≤ 20
  rw [List.size_toArray, Lib.decDigits_length]; exact Lib.nDigits_le20 u hu
theorem numText_pos (u : Nat) : 0 < (numText u).size := by
  show 0 < (Lib.decDigits u).toArray.size
  rw [List.size_toArray, Lib.decDigits_length]; exact Lib.nDigits_pos u
theorem print_num (u : Nat) : printP [numTok u] = Lib.decDigits u := by simp [printP, printGo, tokText, numTok]
theorem run_of (s : ByteArray) (h : ∀ c ∈ s.data.toList, runByte c = true) : ∀ k (hk : k < s.size), runByte s[k] = true := fun k hk => by
  refine h _ ?_
  have e : s[k] = s.data[k] := rfl
  rw [e]
  exact Array.getElem_mem_toList (xs := s.data) (i := k) hk
theorem runByte_digit {c : UInt8} (h : 48 ≤ c.toNat ∧ c.toNat ≤ 57) : runByte c = true := by simp [runByte, isDigit_of h]
theorem headIs_of {s : ByteArray} {c : UInt8} {r : List UInt8} (h : s.data.toList = c :: r) (hc : 48 ≤ c.toNat ∧ c.toNat ≤ 57) : headIs s = true := by
  rw [headIs, h]; exact isDigit_of hc
theorem lex_num (u : Nat) (hu : u < 18446744073709551616) : lexP (numText u) = ([numTok u], 0, 0) := by
  obtain ⟨c, r, he, _, _⟩ := dec_head u
  rw [lex_number _ (numText_pos u) (by have := numText_size u hu; omega) (run_of _ (by rw [numText_list]; exact fun c hc => runByte_digit (dec_digits u c hc)))
    (headIs_of (by rw [numText_list]; exact he) (dec_digits u c (by rw [he]; simp))), numText_list, numP_dec u hu]
  rfl
theorem lex_zero (u : Nat) (hu : u < 18446744073709551616) : lexP ((⟨#[48]⟩ : ByteArray) ++ numText u) = ([], 0, 22) := by
  have hl : ((⟨#[48]⟩ : ByteArray) ++ numText u).data.toList = 48 :: Lib.decDigits u := by
    rw [ByteArray.data_append, Array.toList_append, numText_list]; rfl
  have hz : ((⟨#[48]⟩ : ByteArray) ++ numText u).size = 1 + (numText u).size := by rw [ByteArray.size_append]; rfl
  have hn : numP (48 :: Lib.decDigits u) = none := by
    rw [numP, if_pos]
    refine ⟨?_, rfl⟩
    have := Lib.nDigits_pos u
    rw [List.length_cons, Lib.decDigits_length]; omega
  rw [lex_number _ (by omega) (by have := numText_size u hu; omega) (run_of _ ?_) (headIs_of hl (by decide)), hl, hn]
  rw [hl]
  intro c hc
  rcases List.mem_cons.1 hc with rfl | h
  · decide
  · exact runByte_digit (dec_digits u c h)
theorem lex_letter (u : Nat) (hu : u < 18446744073709551616) (x : Int) (h0 : 97 ≤ x) (h1 : x ≤ 122) : lexP (numText u ++ strOfNums [x]) = ([], 0, 22) := by
  have hl : (numText u ++ strOfNums [x]).data.toList = Lib.decDigits u ++ [UInt8.ofNat x.toNat] := by
    rw [ByteArray.data_append, Array.toList_append, numText_list, strOfNums_data]; rfl
  have hz : (numText u ++ strOfNums [x]).size = (numText u).size + 1 := by rw [ByteArray.size_append, strOfNums_size]; rfl
  have hx : (UInt8.ofNat x.toNat).toNat = x.toNat := by rw [UInt8.toNat_ofNat']; omega
  have hn : numP (Lib.decDigits u ++ [UInt8.ofNat x.toNat]) = none := by
    rw [numP]
    split
    · rfl
    · rw [numGo_dec u hu, numGo, hx, if_neg]
      simp [isDigit]; omega
  obtain ⟨c, r, he, _, _⟩ := dec_head u
  rw [lex_number _ (by omega) (by have := numText_size u hu; omega) (run_of _ ?_) (headIs_of (by rw [hl, he]; rfl) (dec_digits u c (by rw [he]; simp))), hl, hn]
  rw [hl]
  intro c hc
  rcases List.mem_append.1 hc with h | h
  · exact runByte_digit (dec_digits u c h)
  · obtain rfl := List.mem_singleton.1 h
    simp only [runByte, hx, isLetter, Bool.or_eq_true, decide_eq_true_eq]
    omega
theorem lex_big : lexP ⟨#[49, 56, 52, 52, 54, 55, 52, 52, 48, 55, 51, 55, 48, 57, 53, 53, 49, 54, 49, 54]⟩ = ([], 0, 22) := by decide +kernel
theorem numTok_ok (u : Nat) (hu : u < 18446744073709551616) : ∀ t ∈ [numTok u], t.Ok := by
  intro t ht
  obtain rfl := List.mem_singleton.1 ht
  exact ⟨by simp [numTok], Nat.zero_le _, by simp only [numTok]; omega, by simp [numTok], by simp [numTok]⟩

set_option maxRecDepth 100000 in
set_option maxHeartbeats 4000000 in
theorem numbers_walk (n b : Int) (W : World) (htab : PowTab W) (hn : 0 ≤ n ∧ n ≤ 18446744073709551615) (hb : 0 ≤ b ∧ b ≤ 255) :
    Calls Tryd.prog 6 #[.int .u64 n, .int .u8 b] W fun e w' => e = .returned (.bool true) ∧ Below W.heap.size W w' := by
  obtain ⟨u, rfl⟩ : ∃ u : Nat, n = (u : Int) := ⟨n.toNat, by omega⟩
  have hu : u < 18446744073709551616 := by omega
  have HT := Lib.hid htab
  clear htab
  obtain ⟨S, hS⟩ : ∃ S, numText u = S := ⟨_, rfl⟩
  have HS := Lib.hid hS
  have hS20 : S.size ≤ 20 := by rw [← hS]; exact numText_size u hu
  have HP : Hid ((⟨(printP [numTok u]).toArray⟩ : ByteArray) = S) := by show _ = _; rw [print_num]; exact hS
  have HL1 : Hid (lexP S = ([numTok u], 0, 0)) := by show _ = _; rw [← hS]; exact lex_num u hu
  have HL2 : Hid (lexP ((⟨#[48]⟩ : ByteArray) ++ S) = ([], 0, 22)) := by show _ = _; rw [← hS]; exact lex_zero u hu
  have HL3 : Hid (lexP (S ++ strOfNums [97 + b % 26]) = ([], 0, 22)) := by show _ = _; rw [← hS]; exact lex_letter u hu _ (by omega) (by omega)
  have HPl : Hid ((printP [numTok u]).length ≤ 140737488355328) := by
    show _ ≤ _
    rw [print_num, Lib.decDigits_length]
    have := Lib.nDigits_le20 u hu
    omega
  clear hS
  go_enter Tryd.func6, Tryd.ntmps6
  go_wp2_with fail
  refine (alive_any _ HT.out).mono ?_
  rintro e w1 ⟨rfl, hb1⟩
  have HB1 := Lib.hid hb1
  have hz1 := hb1.size
  clear hb1
  go_wp2_with fail
  have R1 : RdT (w1.alloc (.cells #[.int .i64 1, .string ⟨#[]⟩, .int .u64 (u : Int), .int .i64 0, .int .i64 0] 26)) (w1.heap.size + 1) (some ⟨w1.heap.size, 0, none⟩) 1 [numTok u] := Rd.newAt w1 _ _ _ rfl (size := 5) (m := 1) rfl (by simp [maxLen])
  refine (print_any [numTok u] _ _ _ _ (by simpa using R1) (numTok_ok u hu) HPl.out ((HT.out.below HB1.out).below ((Below.refl _ _).alloc (Nat.le_refl _) _))).mono ?_
  rintro e w2 ⟨rfl, hb2⟩
  rw [HP.out]
  have HB2 := Lib.hid ((HB1.out.alloc hz1 (.cells #[.int .i64 1, .string ⟨#[]⟩, .int .u64 (u : Int), .int .i64 0, .int .i64 0] 26)).trans (hb2.mono (by simp; omega)))
  have hz2 := HB2.out.size
  clear hb2 R1
  go_wp2_with fail
  refine (lex_to HL1.out _ (by unfold maxLen; omega)).mono ?_
  rintro e w3 ⟨A, c, rfl, _, hr3, hb3⟩
  rw [show [numTok u].length = 1 from rfl] at hr3 ⊢
  obtain ⟨b0, o0, rfl, hbB⟩ := hr3.addr (by omega)
  have HR3 := Lib.hid hr3
  have HB3 := Lib.hid (HB2.out.trans (hb3.mono hz2))
  have hz3 := HB3.out.size
  clear hr3 hb3
  go_wp2_with fail
  refine (lex_to HL2.out _ (by rw [ByteArray.size_append]; show 1 + _ ≤ _; unfold maxLen; omega)).mono ?_
  rintro e w4 ⟨A4, c4, rfl, _, _, hb4⟩
  have HR4 := Lib.hid ((HR3.out.below hb4).more hb4.size)
  have HB4 := Lib.hid (HB3.out.trans (hb4.mono hz3))
  have hz4 := HB4.out.size
  clear hb4
  have hcv : ∀ x : Int, (convert 39 9 (.slice (some ⟨w4.heap.size, 0, none⟩) 1 1)).run Tryd.prog (w4.alloc (.cells #[.int .u8 x] 5)) = .ok (.string (strOfNums [x])) (w4.alloc (.cells #[.int .u8 x] 5)) := fun x =>
    conv_str (P := Tryd.prog) (c := 1) (l := [x]) 39 9 5 Tryd.underlying39 Tryd.underlying5 Tryd.underlying9 (Rd.new w4 #[.int .u8 x] 5 rfl (by simp [maxLen]))
  have hsl : ∀ x : Int, (strOfNums [x]).size = 1 := fun x => strOfNums_size _
  go_wp2_with fail
  refine (lex_to HL3.out _ (by rw [ByteArray.size_append, hsl]; unfold maxLen; omega)).mono ?_
  rintro e w5 ⟨A5, c5, rfl, _, _, hb5⟩
  have hz5' : w4.heap.size ≤ (w4.alloc (.cells #[.int .u8 (97 + b % 26)] 5)).heap.size := by simp
  have hB45 := ((Below.refl w4.heap.size w4).alloc (Nat.le_refl _) (.cells #[.int .u8 (97 + b % 26)] 5)).trans (hb5.mono hz5')
  have HR5 := Lib.hid ((HR4.out.below hB45).more hB45.size)
  have HB5 := Lib.hid (HB4.out.trans (hB45.mono hz4))
  have hz5 := HB5.out.size
  clear hb5 hB45 hz5' hcv hsl
  go_wp2_with fail
  refine (lex_to lex_big _ (by decide)).mono ?_
  rintro e w6 ⟨A6, c6, rfl, _, _, hb6⟩
  have HR6 := Lib.hid ((HR5.out.below hb6).more hb6.size)
  have HB6 := Lib.hid (HB5.out.trans (hb6.mono hz5))
  clear hb6
  have K := HR6.out.tokIs (k := 0) (t := numTok u) rfl b0 o0 rfl
  have k0 := K.1
  have k1 := K.2.1
  have k2 := K.2.2.1
  simp [numTok] at k0 k1 k2
  clear K
  go_wp2
  go_ret
  exact ⟨rfl, HB6.out⟩
end Go.Proofs.YthfienjmajllpaaDoor
