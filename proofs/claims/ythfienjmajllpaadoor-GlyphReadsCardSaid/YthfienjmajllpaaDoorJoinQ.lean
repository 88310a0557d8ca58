/-
  Chapter 2, plain: the bytes of a note; the joined text's tokens are those of both.
-/
import Derived.Test.YthfienjmajllpaaDoorJoinP2
import Derived.Test.YthfienjmajllpaaDoorBackP
import Derived.Test.YthfienjmajllpaaDoorLawG3
namespace Go.Proofs.YthfienjmajllpaaDoor
open Go.RowKit
open Go.Lib (decodeL decodeN)
set_option linter.unusedVariables false

theorem byte_no10 {n : Nat} (h : n < 256) (h10 : n ≠ 10) : UInt8.ofNat n ≠ 10 := by
  intro e
  have e2 := congrArg UInt8.toNat e
  rw [UInt8.toNat_ofNat'] at e2
  have e3 : (10 : UInt8).toNat = 10 := rfl
  omega
/-- The bytes of a rune that is no line's end are none. -/
theorem encode_no10 (c : Nat) (h : c ≠ 10) : (Utf8.encode (c : Int)).size ≤ 4 ∧ ∀ x ∈ (Utf8.encode (c : Int)).data.toList, x ≠ 10 := by
  obtain ⟨d, hd⟩ : ∃ d, (if Utf8.valid (c : Int) then (c : Int).toNat else Utf8.runeError) = d := ⟨_, rfl⟩
  have h1 : d ≠ 10 ∧ d < 1114112 := by
    rw [← hd]
    split
    · rename_i hv
      simp only [Utf8.valid, Bool.or_eq_true, Bool.and_eq_true, decide_eq_true_eq] at hv
      omega
    · simp [Utf8.runeError]
  unfold Utf8.encode
  simp only [hd]
  clear hd
  split
  · refine ⟨by simp [ByteArray.size], fun x hx => ?_⟩
    obtain rfl : x = UInt8.ofNat d := by simpa using hx
    exact byte_no10 (by omega) h1.1
  · split
    · refine ⟨by simp [ByteArray.size], fun x hx => ?_⟩
      have hx' : x = UInt8.ofNat (192 + d / 64) ∨ x = UInt8.ofNat (128 + d % 64) := by simpa using hx
      rcases hx' with rfl | rfl <;> exact byte_no10 (by omega) (by omega)
    · split
      · refine ⟨by simp [ByteArray.size], fun x hx => ?_⟩
        have hx' : x = UInt8.ofNat (224 + d / 4096) ∨ x = UInt8.ofNat (128 + d / 64 % 64) ∨ x = UInt8.ofNat (128 + d % 64) := by simpa using hx
        rcases hx' with rfl | rfl | rfl <;> exact byte_no10 (by omega) (by omega)
      · refine ⟨by simp [ByteArray.size], fun x hx => ?_⟩
        have hx' : x = UInt8.ofNat (240 + d / 262144) ∨ x = UInt8.ofNat (128 + d / 4096 % 64) ∨ x = UInt8.ofNat (128 + d / 64 % 64) ∨ x = UInt8.ofNat (128 + d % 64) := by simpa using hx
        rcases hx' with rfl | rfl | rfl | rfl <;> exact byte_no10 (by omega) (by omega)
theorem runes_no10 : ∀ (n : Nat) (l : List UInt8), l.length ≤ n → (∀ x ∈ l, x ≠ 10) → ∀ x ∈ runesOf l, x.1 ≠ 10
  | 0, l, hn, _, x, hx => by
    obtain rfl : l = [] := List.eq_nil_of_length_eq_zero (by omega)
    simp [runesOf_nil] at hx
  | n + 1, l, hn, h, x, hx => by
    by_cases hl : l = []
    · subst hl; simp [runesOf_nil] at hx
    · have hpr := runesOf_proper (n + 1) l hn x hx
      have hp := decodeL_pos hl
      have h0 : 0 < l.length := List.length_pos_iff.2 hl
      rw [runesOf_cons hl] at hx
      rcases List.mem_cons.1 hx with rfl | hx
      · intro e
        obtain ⟨y, hy, hy2⟩ := hpr (by rw [e]; decide)
        have hmem : y ∈ l := List.mem_of_mem_take (by show y ∈ List.take (decodeL l).2 l; have h2 : List.take (decodeL l).2 l = [y] := hy; rw [h2]; simp)
        refine h y hmem (UInt8.toNat_inj.1 ?_)
        rw [hy2, e]; rfl
      · exact runes_no10 n (l.drop (decodeL l).2) (by rw [List.length_drop]; omega) (fun y hy => h y (List.mem_of_mem_drop hy)) x hx
theorem sameP_app : ∀ {l r l' r' : List Tok}, sameP l r = true → sameP l' r' = true → sameP (l ++ l') (r ++ r') = true
  | [], [], _, _, _, h => h
  | [], _ :: _, _, _, h, _ => by cases h
  | _ :: _, [], _, _, h, _ => by cases h
  | x :: l, y :: r, l', r', h, h' => by
    simp only [sameP, Bool.and_eq_true] at h
    simp only [List.cons_append, sameP, Bool.and_eq_true]
    exact ⟨h.1, sameP_app h.2 h'⟩
theorem sameP_move (k d : Nat) (l : List Tok) : sameP (l.map (moveT k d)) l = true := by
  induction l with
  | nil => rfl
  | cons x l ih => simp [sameP, sameTok, moveT, ih]
/-- The token of a line's end that the law lays between. -/
def midTok : Tok := ⟨3, ⟨#[]⟩, 0, 0, 0⟩
def joined (a pad note b : ByteArray) : ByteArray := a ++ pad ++ ⟨#[35]⟩ ++ note ++ ⟨#[10]⟩ ++ pad ++ b
theorem joined_list (a pad note b : ByteArray) : (joined a pad note b).data.toList = a.data.toList ++ (pad.data.toList ++ (35 :: (note.data.toList ++ (10 :: (pad.data.toList ++ b.data.toList))))) := by
  simp only [joined, ByteArray.data_append, Array.toList_append, List.append_assoc]
  rfl
theorem joined_size (a pad note b : ByteArray) : (joined a pad note b).size = a.size + 2 * pad.size + note.size + 2 + b.size := by
  have h : ∀ x : ByteArray, x.data.toList.length = x.size := fun _ => rfl
  rw [← h, joined_list]
  simp only [List.length_append, List.length_cons, h]
  omega
theorem joins_plain {a pad note b : ByteArray} (hp : ∀ x ∈ pad.data.toList, x = 32 ∨ x = 9) (hn : ∀ x ∈ note.data.toList, x ≠ 10) (ha3 : a.size ≤ 300) (hb3 : b.size ≤ 300) (hps : pad.size ≤ 30) (hns : note.size ≤ 1200)
    {la lb : List Tok} {pa ea pb eb : Int} (ha : lexP a = (la, pa, ea)) (hb : lexP b = (lb, pb, eb)) :
    (ea ≠ 0 → lexP (joined a pad note b) = ([], pa, ea)) ∧
    (ea = 0 → eb ≠ 0 → lexP (joined a pad note b) = ([], pb + ((a.size + 2 * pad.size + note.size + 2 : Nat) : Int), eb)) ∧
    (ea = 0 → eb = 0 → ∃ L, lexP (joined a pad note b) = (L, 0, 0) ∧ sameP L (la ++ [midTok] ++ lb) = true ∧ L.length = la.length + 1 + lb.length) := by
  have h : ∀ x : ByteArray, x.data.toList.length = x.size := fun _ => rfl
  have hj := join_plain a.data.toList pad.data.toList note.data.toList b.data.toList hp (runes_no10 _ _ (Nat.le_refl _) hn) (by rw [h, h]; omega)
  rw [← joined_list, ← lexP_R (joined a pad note b) (by rw [joined_size]; omega), ← lexP_R a (by omega), ← lexP_R b (by omega), ha, hb] at hj
  simp only [h] at hj
  refine ⟨hj.1, hj.2.1, fun e f => ?_⟩
  obtain ⟨p, n, k, d, hL⟩ := hj.2.2 e f
  refine ⟨_, hL, ?_, by simp; omega⟩
  exact sameP_app (sameP_app (sameP_refl _) (by simp [sameP, sameTok, midTok])) (sameP_move k d lb)
end Go.Proofs.YthfienjmajllpaaDoor
