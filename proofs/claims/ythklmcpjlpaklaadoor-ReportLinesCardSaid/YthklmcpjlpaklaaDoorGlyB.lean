/-
  Chapter 2: contract of glyph.number.
-/
import Derived.Test.YthklmcpjlpaklaaDoorGlyA
namespace Go.Proofs.YthklmcpjlpaklaaDoor
open Go.RowKit
set_option linter.unusedVariables false

def NumPost (s : ByteArray) (w : World) (e : Ending) (w' : World) : Prop :=
  e = .returned (.tuple #[.int .u64 ((numP s.data.toList).getD 0 : Nat), .bool (numP s.data.toList).isSome]) ∧ Below w.heap.size w w'
theorem NumPost.none {s : ByteArray} {w w' : World} (h : numP s.data.toList = none) (hb : Below w.heap.size w w') : NumPost s w (.returned (.tuple #[.int .u64 0, .bool false])) w' := by
  refine ⟨?_, hb⟩
  rw [h]; rfl
theorem NumPost.some {s : ByteArray} {w w' : World} {n : Nat} (h : numP s.data.toList = some n) (hb : Below w.heap.size w w') : NumPost s w (.returned (.tuple #[.int .u64 n, .bool true])) w' := by
  refine ⟨?_, hb⟩
  rw [h]; rfl
theorem drop_cons (s : ByteArray) (k : Nat) (h : k < s.size) : s.data.toList.drop k = s[k] :: s.data.toList.drop (k + 1) := by
  rw [List.drop_eq_getElem_cons (by simpa using h)]; rfl
theorem digit_is {c : Nat} {b : Bool} (w : World) (h : isDigit c = b) : Calls Tryd.prog 42 #[.int .i32 c] w fun e w' => e = .returned (.bool b) ∧ w = w' := by
  subst h; exact digit_any c w

set_option maxHeartbeats 4000000 in
theorem number_any (s : ByteArray) (hs : s.size ≤ maxLen) (w : World) : Calls Tryd.prog 45 #[.string s] w (NumPost s w) := by
  unfold maxLen at hs
  obtain ⟨l, hl⟩ : ∃ l, s.data.toList = l := ⟨_, rfl⟩
  have hll : l.length = s.size := by rw [← hl]; simp
  have h48 : ∀ h : 0 < s.size, l[0]? = some (s[0]'h) := fun h => by rw [← hl, Array.getElem?_toList]; exact Array.getElem?_eq_getElem (xs := s.data) h
  have hsplit : (1 < s.size ∧ ((∃ h : 0 < s.size, (s[0]'h).toNat = 48 ∧ Hid (numP l = none)) ∨ (∃ h : 0 < s.size, (s[0]'h).toNat ≠ 48 ∧ Hid (numP l = numGo l 0)))) ∨ (¬ 1 < s.size ∧ Hid (numP l = numGo l 0)) := by
    by_cases h1 : 1 < s.size
    · refine .inl ⟨h1, ?_⟩
      have h0 : 0 < s.size := by omega
      by_cases hz : (s[0]'h0).toNat = 48
      · refine .inl ⟨h0, hz, ?_⟩
        show _ = _
        have : s[0]'h0 = 48 := UInt8.toNat_inj.1 hz
        rw [numP, if_pos ⟨by omega, by rw [h48 h0, this]⟩]
      · refine .inr ⟨h0, hz, ?_⟩
        show _ = _
        rw [numP, if_neg]
        rintro ⟨_, e⟩
        rw [h48 h0] at e
        injection e with e
        exact hz (by rw [e]; rfl)
    · exact .inr ⟨h1, by show _ = _; rw [numP, if_neg (fun h => by omega)]⟩
  have HL := Lib.hid hl
  clear hll h48 hl
  rcases hsplit with ⟨h1, ⟨h0, hz, HX⟩ | ⟨h0, hz, HX⟩⟩ | ⟨h1, HX⟩
  · go_enter Tryd.func45, Tryd.ntmps45
    generalize hb : (s[0]'h0).toNat = b at hz
    subst hz
    go_wp2
    go_ret2
    exact .none (by rw [HL.out]; exact HX.out) (Below.refl _ _)
  all_goals
    obtain ⟨R, hR⟩ : ∃ R, numGo l 0 = R := ⟨_, rfl⟩
    rw [hR] at HX
    have HR0 := Lib.hid hR
    clear hR
    go_enter Tryd.func45, Tryd.ntmps45
    try (generalize hb0 : (s[0]'h0).toNat = b0 at hz
         have hz' : ((b0 : Int) == 48) = false := by simp; omega)
    go_wp2
    go_loopw [4, 6, 7] (fun t _u _v wr => ∃ pos n : Nat, (pos ≤ s.size ∧ t = .int .u64 n ∧ n ≤ 18446744073709551615) ∧ Hid (numGo (l.drop pos) n = R) ∧ wr.heap[w.heap.size]? = some (.stringIter s pos) ∧ Below w.heap.size w wr) (fun _ _ _ wr => s.size - wr.iterPos w.heap.size)
    case atStart => exact ⟨0, 0, ⟨by omega, rfl, by omega⟩, HR0, World.iter_heap w s 0, (Below.refl _ _).alloc (Nat.le_refl _) _⟩
    case round =>
      obtain ⟨pos, n, ⟨hpos, rfl, hn⟩, HN, hit, hb⟩ := hrel
      have HB := Lib.hid hb
      have HI := Lib.hid hit
      clear hb hit
      try clear hb0 hz hz'
      by_cases hp : pos < s.size
      · have hnx : ∀ ty, (Instr.next (.pointer (some ⟨w.heap.size, 0, none⟩)) true ty).run Tryd.prog wr = _ := fun ty => Lib.run_next_any_at wr w.heap.size s pos ty HI.out hp
        have hdrop : l.drop pos = s[pos] :: l.drop (pos + 1) := by rw [← HL.out]; exact drop_cons s pos hp
        have HD := Lib.hid hdrop
        have HP := Lib.hid hp
        by_cases ha : (s[pos]'hp).toNat < 128
        · rw [decode_ascii s pos hp ha] at hnx
          simp only at hnx
          have hit2 := Lib.hid (Lib.iterAt_heap wr w.heap.size s pos (pos + 1) HI.out)
          have hb2 := Lib.hid (Lib.below_iterAt HB.out (k := w.heap.size) (Nat.le_refl _) s (pos + 1))
          have HC : Hid (∀ c : Nat, (s[pos]'hp).toNat = c → numGo (l.drop pos) n = if isDigit c then (if (18446744073709551615 - (c - 48)) / 10 < n then none else numGo (l.drop (pos + 1)) (10 * n + (c - 48))) else none) := by
            intro c hc
            rw [hdrop, numGo, hc]
          generalize hc : (s[pos]'hp).toNat = c at hnx ha
          have HC' := HC.out c hc
          rw [HN.out] at HC'
          have HE := Lib.hid HC'
          clear HC HC' hc hdrop
          cases hd : isDigit c
          · have HR : Hid (R = none) := by show _ = _; rw [HE.out, hd]; rfl
            have HDg := Lib.hid hd
            clear hd
            go_wp2_with (go_at_call 42; refine (digit_is _ HDg.out).mono ?_; rintro e w1 ⟨rfl, rfl⟩)
            go_ret2
            exact .none (by rw [HL.out, HX.out]; exact HR.out) hb2.out
          · have HDg := Lib.hid hd
            have hd' : 48 ≤ c ∧ c ≤ 57 := by simpa [isDigit] using hd
            obtain ⟨d, hcd⟩ : ∃ d : Nat, c - 48 = d := ⟨_, rfl⟩
            have hd9 : d ≤ 9 := by omega
            have hcd' : (c : Int) - 48 = (d : Int) := by omega
            obtain ⟨hc1, hc2⟩ := hd'
            by_cases hof : (18446744073709551615 - d) / 10 < n
            · have HR : Hid (R = none) := by show _ = _; rw [HE.out, hd, hcd, if_pos hof]; rfl
              clear hd hcd
              go_wp2_with (go_at_call 42; refine (digit_is _ HDg.out).mono ?_; rintro e w1 ⟨rfl, rfl⟩)
              go_ret2
              exact .none (by rw [HL.out, HX.out]; exact HR.out) hb2.out
            · have HR : Hid (numGo (l.drop (pos + 1)) (10 * n + d) = R) := by show _ = _; rw [HE.out, hd, hcd, if_neg hof]; rfl
              clear hd hcd
              go_wp2_with (go_at_call 42; refine (digit_is _ HDg.out).mono ?_; rintro e w1 ⟨rfl, rfl⟩)
              go_roundw
              case rel => exact ⟨pos + 1, 10 * n + d, ⟨by have := HP.out; omega, by go_num, by omega⟩, HR, hit2.out, hb2.out⟩
              case measure =>
                have := HP.out
                simp only [World.iterPos, hit2.out, HI.out]
                omega
        · have hh := decode_high s pos hp (by omega)
          have hle := decode_le s pos
          have hb2 := Lib.hid (Lib.below_iterAt HB.out (k := w.heap.size) (Nat.le_refl _) s (pos + (Utf8.decode s pos).2))
          have HR : Hid (R = none) := by
            have e : isDigit (s[pos]'hp).toNat = false := by simp [isDigit]; omega
            show _ = _
            rw [← HN.out, hdrop, numGo, e]; rfl
          generalize (Utf8.decode s pos).1 = c at hnx hh hle
          have hd : isDigit c = false := by simp [isDigit]; omega
          have HDg := Lib.hid hd
          generalize (Utf8.decode s pos).2 = kk at hnx hh hb2
          clear hd hdrop ha
          go_wp2_with (go_at_call 42; refine (digit_is _ HDg.out).mono ?_; rintro e w1 ⟨rfl, rfl⟩)
          go_ret2
          exact .none (by rw [HL.out, HX.out]; exact HR.out) hb2.out
      · have hnx : ∀ ty, (Instr.next (.pointer (some ⟨w.heap.size, 0, none⟩)) true ty).run Tryd.prog wr = _ := fun ty => Lib.run_next_end_at wr w.heap.size s pos ty HI.out hp
        have HR : Hid (R = some n) := by
          show _ = _
          rw [← HN.out, List.drop_eq_nil_of_le (by rw [← HL.out]; simp; omega)]; rfl
        go_wp2
        go_ret2
        exact .some (by rw [HL.out, HX.out]; exact HR.out) HB.out
end Go.Proofs.YthklmcpjlpaklaaDoor
