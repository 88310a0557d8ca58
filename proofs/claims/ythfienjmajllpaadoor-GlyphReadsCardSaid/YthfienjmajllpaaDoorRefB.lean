/-
  Chapter 2: the reference's lexer: contracts of tumblerref02.one, next.
-/
import Derived.Test.YthfienjmajllpaaDoorRefA
import Derived.Test.YthfienjmajllpaaDoorShelf
import Derived.Test.YthfienjmajllpaaDoorGlyC
namespace Go.Proofs.YthfienjmajllpaaDoor
open Go.RowKit
set_option linter.unusedVariables false

def tokV (t : Tok) : Value := .agg #[.int .i64 t.kind, .string t.text, .int .u64 t.num, .int .i64 t.at_, .int .i64 t.line]
def OnePost (r : Tok × Int) (w : World) (e : Ending) (w' : World) : Prop := e = .returned (.tuple #[tokV r.1, .int .i64 r.2]) ∧ w' = w.alloc (.cells #[.int .i64 r.1.kind, .string r.1.text, .int .u64 r.1.num, .int .i64 r.1.at_, .int .i64 r.1.line] 37)
set_option maxHeartbeats 4000000 in
theorem one_any (s : ByteArray) (h0 : 0 < s.size) (hs : s.size ≤ maxLen) (at_ line : Int) (w : World) : Calls Tryd.prog 36 #[.string s, .int .i64 at_, .int .i64 line] w (OnePost (oneP s.data.toList at_ line) w) := by
  have HS := Lib.hid hs
  unfold maxLen at hs
  have hhead : headR s.data.toList = isDigit (s[0]'h0).toNat := by
    have := drop_cons s 0 h0
    rw [List.drop_zero] at this
    rw [this]; rfl
  obtain ⟨R, hR⟩ : ∃ R, oneP s.data.toList at_ line = R := ⟨_, rfl⟩
  rw [hR]
  unfold oneP at hR
  rw [hhead] at hR
  have hlen : s.data.toList.length = s.size := rfl
  rw [hlen] at hR
  go_enter Tryd.func36, Tryd.ntmps36
  cases hd : isDigit (s[0]'h0).toNat
  · rw [hd, if_neg (by simp)] at hR
    by_cases h24 : 24 < s.size
    · rw [if_pos h24] at hR
      have HR := Lib.hid hR
      clear hR
      go_wp2_with (go_at_call 46; refine (rdig_is _ hd).mono ?_; rintro e w1 ⟨rfl, rfl⟩)
      refine ⟨rfl, .tuple #[tokV R.1, .int .i64 R.2], ?_, rfl, ?_⟩
      · rw [← HR.out]; simp [results, Tryd.results36, go_sem, tokV, tok0]
      · rw [← HR.out]; rfl
    · rw [if_neg h24] at hR
      have hR2 : ((⟨0, s, 0, at_, line⟩ : Tok), (0 : Int)) = R := by rw [← hR, mk_toList]
      have HR := Lib.hid hR2
      clear hR hR2
      go_wp2_with (go_at_call 46; refine (rdig_is _ hd).mono ?_; rintro e w1 ⟨rfl, rfl⟩)
      refine ⟨rfl, .tuple #[tokV R.1, .int .i64 R.2], ?_, rfl, ?_⟩
      · rw [← HR.out]; simp [results, Tryd.results36, go_sem, tokV]
      · rw [← HR.out]
  · rw [hd, if_pos rfl] at hR
    cases hn : numP s.data.toList with
    | none =>
      have HN : Hid (∀ W, Calls Tryd.prog 47 #[.string s] W fun e w' => e = .returned (.tuple #[.int .u64 0, .bool false]) ∧ W = w') := fun W => by
        have h := rnumber_any s HS.out W
        rw [hn] at h
        exact h
      rw [hn] at hR
      have HR := Lib.hid hR
      clear hR hn
      go_wp2_with (first | (go_at_call 46; refine (rdig_is _ hd).mono ?_; rintro e w1 ⟨rfl, rfl⟩) | (go_at_call 47; refine (HN.out _).mono ?_; rintro e w1 ⟨rfl, rfl⟩))
      refine ⟨rfl, .tuple #[tokV R.1, .int .i64 R.2], ?_, rfl, ?_⟩
      · rw [← HR.out]; simp [results, Tryd.results36, go_sem, tokV, tok0]
      · rw [← HR.out]; rfl
    | some u =>
      have HN : Hid (∀ W, Calls Tryd.prog 47 #[.string s] W fun e w' => e = .returned (.tuple #[.int .u64 u, .bool true]) ∧ W = w') := fun W => by
        have h := rnumber_any s HS.out W
        rw [hn] at h
        exact h
      rw [hn] at hR
      have HR := Lib.hid hR
      clear hR hn
      go_wp2_with (first | (go_at_call 46; refine (rdig_is _ hd).mono ?_; rintro e w1 ⟨rfl, rfl⟩) | (go_at_call 47; refine (HN.out _).mono ?_; rintro e w1 ⟨rfl, rfl⟩))
      refine ⟨rfl, .tuple #[tokV R.1, .int .i64 R.2], ?_, rfl, ?_⟩
      · rw [← HR.out]; simp [results, Tryd.results36, go_sem, tokV]
      · rw [← HR.out]
theorem utf8_below {g3 g4 : Nat} {w w' : World} (h : Lib.Utf8Tabs g3 g4 w) (hb : Below w.heap.size w w') : Lib.Utf8Tabs g3 g4 w' := by
  have key : ∀ g i v, w.cell? ⟨g, i, none⟩ = some v → w'.cell? ⟨g, i, none⟩ = some v := fun g i v hc =>
    (hb.cell (p := ⟨g, i, none⟩) (World.block_lt_of_cell? w _ hc)).trans hc
  exact ⟨fun c hc => key _ _ _ (h.1 c hc), fun i hi => ⟨key _ _ _ (h.2 i hi).1, key _ _ _ (h.2 i hi).2⟩⟩
def NextPost (r : Tok × Bool × Nat × Int) (w : World) (e : Ending) (w' : World) : Prop :=
  e = .returned (.tuple #[tokV r.1, .bool r.2.1, .int .i64 (r.2.2.1 : Nat), .int .i64 r.2.2.2]) ∧ Below w.heap.size w w'
theorem str_from {P : Program} {t : TypeId} (ht : P.underlying t = some .string) {s X : ByteArray} {a : Nat} (h2 : a ≤ s.size) (hX : s.extract a s.size = X) (w : World) :
    (Instr.slice t (.string s) (some (.int .i64 a)) none none).run P w = .ok (.string X) w := by
  rw [run_slice_string_l w t s ht .i64 a (by omega) (by omega), Int.toNat_natCast, hX]
theorem extract_from (s : ByteArray) (a : Nat) : (s.extract a s.size).data.toList = s.data.toList.drop a := by
  rw [extract_list, List.take_of_length_le]
  rw [List.length_drop]
  exact Nat.le_refl _
theorem runLen_le : ∀ l : List UInt8, runLen l ≤ l.length
  | [] => Nat.le_refl _
  | x :: r => by
    rw [runLen]
    split
    · have := congrArg List.length (List.takeWhile_append_dropWhile (p := moreByte) (l := r))
      rw [List.length_append] at this
      rw [List.length_cons]; omega
    · exact Nat.zero_le _
set_option maxRecDepth 100000 in
set_option maxHeartbeats 4000000 in
theorem next_any (s : ByteArray) (hs : s.size ≤ maxLen) (p : Nat) (hp : p < s.size) (line : Int) (w : World) (hU : Lib.Utf8Tabs 1 2 w) : Calls Tryd.prog 26 #[.string s, .int .i64 p, .int .i64 line] w (NextPost (nextP (s.data.toList.drop p) p line) w) := by
  have HS := Lib.hid hs
  have HU := Lib.hid hU
  unfold maxLen at hs
  obtain ⟨rest, hrest⟩ : ∃ rest, s.data.toList.drop p = rest := ⟨_, rfl⟩
  have hcons := drop_cons s p hp
  rw [hrest] at hcons
  have hlen : rest.length = s.size - p := by rw [← hrest, List.length_drop]; rfl
  have HRun : Hid (∀ W, Calls Tryd.prog 35 #[.string s, .int .i64 p] W fun e w' => e = .returned (.int .i64 (runLen rest : Nat)) ∧ W = w') := fun W => by rw [← hrest]; exact run_any s HS.out p W
  have HRest := Lib.hid hrest
  rw [hrest]
  clear hrest hU
  obtain ⟨R, hR⟩ : ∃ R, nextP rest p line = R := ⟨_, rfl⟩
  rw [hR]
  unfold nextP at hR
  obtain ⟨n, hn⟩ : ∃ n, runLen rest = n := ⟨_, rfl⟩
  rw [hn] at hR HRun
  go_enter Tryd.func26, Tryd.ntmps26
  by_cases h0 : 0 < n
  · rw [if_pos h0] at hR
    have hnl : n ≤ s.size - p := by rw [← hn, ← hlen]; exact runLen_le rest
    obtain ⟨X, hX⟩ : ∃ X, s.extract p (p + n) = X := ⟨_, rfl⟩
    have hXl : X.data.toList = rest.take n := by rw [← hX, extract_list, HRest.out, Nat.add_sub_cancel_left]
    have hXs : X.size = n := by
      have : X.data.toList.length = X.size := rfl
      rw [← this, hXl, List.length_take]; omega
    have hsl := fun W => str_cut (P := Tryd.prog) Tryd.underlying9 (by omega) (by omega) hX W
    rw [Int.natCast_add] at hsl
    obtain ⟨⟨⟨tk, tt, tn, ta, tl⟩, er⟩, hone⟩ : ∃ r, oneP X.data.toList p line = r := ⟨_, rfl⟩
    rw [← hXl, hone] at hR
    have HOne : Hid (∀ W, Calls Tryd.prog 36 #[.string X, .int .i64 p, .int .i64 line] W (fun e w' => e = .returned (.tuple #[.agg #[.int .i64 tk, .string tt, .int .u64 tn, .int .i64 ta, .int .i64 tl], .int .i64 er]) ∧ w' = W.alloc (.cells #[.int .i64 tk, .string tt, .int .u64 tn, .int .i64 ta, .int .i64 tl] 37))) := fun W => by
      show Calls _ _ _ _ (OnePost (⟨tk, tt, tn, ta, tl⟩, er) W)
      rw [← hone]; exact one_any X (by omega) (by unfold maxLen; omega) p line W
    have HR := Lib.hid hR
    clear hR hX hXl hone hcons
    go_wp2_with (first | (go_at_call 35; refine (HRun.out _).mono ?_; rintro e w1 ⟨rfl, rfl⟩) | (go_at_call 36; refine (HOne.out _).mono ?_; rintro e w1 ⟨rfl, rfl⟩))
    refine ⟨rfl, .tuple #[tokV R.1, .bool R.2.1, .int .i64 (R.2.2.1 : Nat), .int .i64 R.2.2.2], ?_, rfl, ?_⟩
    · rw [← HR.out]; simp [results, Tryd.results26, go_sem, tokV]
    · exact (((Below.refl _ _).alloc (Nat.le_refl _) _).alloc (by simp) _).alloc (by simp; omega) _
  · obtain rfl : n = 0 := by omega
    rw [if_neg (by omega), hcons] at hR
    simp only at hR
    obtain ⟨r, hr⟩ : ∃ r, s.data.toList.drop (p + 1) = r := ⟨_, rfl⟩
    rw [hr] at hR hcons
    have hbyte : ∀ m : UInt8, s[p] = m ↔ (s[p]'hp).toNat = m.toNat := fun m => ⟨fun h => by rw [h], fun h => UInt8.toNat_inj.1 h⟩
    unfold restP at hR
    by_cases h10 : s[p] = 10
    · rw [if_pos h10] at hR
      have HR := Lib.hid hR
      have hb : (s[p]'hp).toNat = 10 := (hbyte 10).1 h10
      clear hR hcons h10 hbyte
      go_wp2_with (go_at_call 35; refine (HRun.out _).mono ?_; rintro e w1 ⟨rfl, rfl⟩)
      refine ⟨rfl, .tuple #[tokV R.1, .bool R.2.1, .int .i64 (R.2.2.1 : Nat), .int .i64 R.2.2.2], ?_, rfl, ?_⟩
      · rw [← HR.out]; simp [results, Tryd.results26, go_sem, tokV]
      · exact (Below.refl _ _).alloc (Nat.le_refl _) _
    rw [if_neg h10] at hR
    have b10 : (((s[p]'hp).toNat : Int) == 10) = false := by rw [beq_eq_false_iff_ne]; intro e; exact h10 ((hbyte 10).2 (show _ = 10 by omega))
    by_cases hbl : s[p] = 32 ∨ s[p] = 9 ∨ s[p] = 13
    · rw [if_pos hbl] at hR
      have HR := Lib.hid hR
      have hb : (s[p]'hp).toNat = 32 ∨ ((((s[p]'hp).toNat : Int) == 32) = false ∧ (s[p]'hp).toNat = 9) ∨ ((((s[p]'hp).toNat : Int) == 32) = false ∧ (((s[p]'hp).toNat : Int) == 9) = false ∧ (s[p]'hp).toNat = 13) := by
        rcases hbl with h | h | h
        · exact .inl ((hbyte 32).1 h)
        · exact .inr (.inl ⟨by rw [h]; rfl, (hbyte 9).1 h⟩)
        · exact .inr (.inr ⟨by rw [h]; rfl, by rw [h]; rfl, (hbyte 13).1 h⟩)
      clear hR hcons h10 hbyte hbl
      rcases hb with hb | ⟨g1, hb⟩ | ⟨g1, g2, hb⟩
      all_goals
        go_wp2_with (go_at_call 35; refine (HRun.out _).mono ?_; rintro e w1 ⟨rfl, rfl⟩)
        refine ⟨rfl, .tuple #[tokV R.1, .bool R.2.1, .int .i64 (R.2.2.1 : Nat), .int .i64 R.2.2.2], ?_, rfl, ?_⟩
        · rw [← HR.out]; simp [results, Tryd.results26, go_sem, tokV, tok0]
        · exact (Below.refl _ _).alloc (Nat.le_refl _) _
    rw [if_neg hbl] at hR
    have b32 : (((s[p]'hp).toNat : Int) == 32) = false := by rw [beq_eq_false_iff_ne]; intro e; exact hbl (.inl ((hbyte 32).2 (show _ = 32 by omega)))
    have b9 : (((s[p]'hp).toNat : Int) == 9) = false := by rw [beq_eq_false_iff_ne]; intro e; exact hbl (.inr (.inl ((hbyte 9).2 (show _ = 9 by omega))))
    have b13 : (((s[p]'hp).toNat : Int) == 13) = false := by rw [beq_eq_false_iff_ne]; intro e; exact hbl (.inr (.inr ((hbyte 13).2 (show _ = 13 by omega))))
    clear hbl h10
    by_cases h35 : s[p] = 35
    · rw [if_pos h35] at hR
      obtain ⟨N, hN⟩ : ∃ N, 1 + (r.takeWhile (fun x => x != 10)).length = N := ⟨_, rfl⟩
      rw [hN] at hR
      have HR := Lib.hid hR
      have HN0 : Hid (N = 1 + ((s.data.toList.drop (p + 1)).takeWhile (fun x => x != 10)).length) := by show _ = _; rw [hr, hN]
      have hb : (s[p]'hp).toNat = 35 := (hbyte 35).1 h35
      clear hR hcons h35 hbyte hN hr
      go_wp2_with (go_at_call 35; refine (HRun.out _).mono ?_; rintro e w1 ⟨rfl, rfl⟩)
      go_loopw [14] (fun t wr => ∃ k : Nat, (t = .int .i64 k ∧ 1 ≤ k ∧ p + k ≤ s.size) ∧ Hid (N = k + ((s.data.toList.drop (p + k)).takeWhile (fun x => x != 10)).length) ∧ wr = w.alloc (.cells #[.int .i64 0, .string ⟨#[]⟩, .int .u64 0, .int .i64 0, .int .i64 0] 37)) (fun t _ => s.size - p - (intOf t).toNat)
      case atStart => exact ⟨1, ⟨rfl, by omega, by omega⟩, HN0, rfl⟩
      case round =>
        obtain ⟨k, ⟨rfl, hk1, hk⟩, HK, rfl⟩ := hrel
        obtain ⟨j, hj⟩ : ∃ j, p + k = j := ⟨_, rfl⟩
        have hji : (p : Int) + (k : Int) = (j : Int) := by omega
        rw [hj] at HK hk
        by_cases hlt : j < s.size
        · have hd := drop_cons s j hlt
          have HC := HK.out
          rw [hd] at HC
          by_cases hc : (s[j]'hlt).toNat = 10
          · have hm : ((s[j]'hlt) != 10) = false := by
              rw [UInt8.toNat_inj.1 (show (s[j]'hlt).toNat = (10 : UInt8).toNat from hc)]; rfl
            rw [List.takeWhile_cons_of_neg (p := fun x : UInt8 => x != 10) (by rw [hm]; simp)] at HC
            obtain rfl : N = k := by simpa using HC
            clear hd HC hm
            go_wp2
            refine ⟨rfl, .tuple #[tokV R.1, .bool R.2.1, .int .i64 (R.2.2.1 : Nat), .int .i64 R.2.2.2], ?_, rfl, ?_⟩
            · rw [← HR.out]; simp [results, Tryd.results26, go_sem, tokV, tok0]
            · exact (Below.refl _ _).alloc (Nat.le_refl _) _
          · have hm : ((s[j]'hlt) != 10) = true := by
              rw [bne_iff_ne]
              intro e
              rw [e] at hc
              exact hc rfl
            rw [List.takeWhile_cons_of_pos (p := fun x : UInt8 => x != 10) hm, List.length_cons] at HC
            have HC2 : Hid (N = k + 1 + ((s.data.toList.drop (j + 1)).takeWhile (fun x => x != 10)).length) := by show _ = _; omega
            have hc' : (((s[j]'hlt).toNat : Int) != 10) = true := by rw [bne_iff_ne]; omega
            clear hd HC hm
            go_wp2
            go_roundw
            case rel => exact ⟨k + 1, ⟨by go_num, by omega, by omega⟩, by rw [show p + (k + 1) = j + 1 by omega]; exact HC2, by first | rfl | trivial⟩
            case measure => simp [intOf]; omega
        · have HC2 : Hid (N = k) := by
            show _ = _
            have := HK.out
            rw [List.drop_eq_nil_of_le (by show s.size ≤ j; omega)] at this
            simpa using this
          obtain rfl := HC2.out
          go_wp2
          refine ⟨rfl, .tuple #[tokV R.1, .bool R.2.1, .int .i64 (R.2.2.1 : Nat), .int .i64 R.2.2.2], ?_, rfl, ?_⟩
          · rw [← HR.out]; simp [results, Tryd.results26, go_sem, tokV, tok0]
          · exact (Below.refl _ _).alloc (Nat.le_refl _) _
    · rw [if_neg h35] at hR
      have b35 : (((s[p]'hp).toNat : Int) == 35) = false := by rw [beq_eq_false_iff_ne]; intro e; exact h35 ((hbyte 35).2 (show _ = 35 by omega))
      rw [← hcons] at hR
      have hne : rest ≠ [] := by rw [hcons]; simp
      obtain ⟨cc, K, hcK⟩ : ∃ cc K, Go.Lib.decodeL rest = (cc, K) := ⟨_, _, rfl⟩
      have hK1 := decodeL_pos hne
      have hK2 := Lib.decodeL_le rest hne
      rw [hcK] at hR hK1 hK2
      simp only at hR hK1 hK2
      obtain ⟨X, hX⟩ : ∃ X, s.extract p s.size = X := ⟨_, rfl⟩
      have hXl : X.data.toList = rest := by rw [← hX, extract_from, HRest.out]
      have hfrom := fun W => str_from (P := Tryd.prog) Tryd.underlying9 (by omega) hX W
      have hdec : Lib.decodeGo X = (cc, K) := by
        have h0 : X.size ≠ 0 := by
          have h1 : X.data.toList.length = X.size := rfl
          rw [← h1, hXl]; omega
        have h2 := Lib.decodeL_drop X 0
        rw [List.drop_zero, hXl, hcK] at h2
        rw [Lib.decodeGo, if_neg h0, ← h2]
      have HDec : Hid (Calls Tryd.prog 37 #[.string X] (w.alloc (.cells #[.int .i64 0, .string ⟨#[]⟩, .int .u64 0, .int .i64 0, .int .i64 0] 37)) fun e w' => e = .returned (.tuple #[.int .i32 cc, .int .i64 K]) ∧ Below (w.alloc (.cells #[.int .i64 0, .string ⟨#[]⟩, .int .u64 0, .int .i64 0, .int .i64 0] 37)).heap.size (w.alloc (.cells #[.int .i64 0, .string ⟨#[]⟩, .int .u64 0, .int .i64 0, .int .i64 0] 37)) w') := by
        have h := Tryd.utf8_DecodeRuneInString X (w.alloc (.cells #[.int .i64 0, .string ⟨#[]⟩, .int .u64 0, .int .i64 0, .int .i64 0] 37)) (utf8_below HU.out ((Below.refl _ _).alloc (Nat.le_refl _) _))
        rw [hdec] at h
        exact h
      obtain ⟨Y, hY⟩ : ∃ Y, s.extract p (p + K) = Y := ⟨_, rfl⟩
      have hYl : Y.data.toList = rest.take K := by rw [← hY, extract_list, HRest.out, Nat.add_sub_cancel_left]
      have hcut := fun W => str_cut (P := Tryd.prog) Tryd.underlying9 (by omega) (by omega) hY W
      rw [Int.natCast_add] at hcut
      have HSg : Hid (∀ W, Calls Tryd.prog 38 #[.string Y] W fun e w' => e = .returned (.bool (signB (rest.take K))) ∧ W = w') := fun W => by rw [← hYl]; exact rsign_any Y W
      have hYb : (⟨(rest.take K).toArray⟩ : ByteArray) = Y := by rw [← hYl]
      rw [hYb] at hR
      clear hcons h35 hbyte hr hX hXl hdec hY hYl hYb hcK hne
      cases hsg : signB (rest.take K)
      all_goals
        rw [hsg] at hR HSg
        simp only [Bool.false_eq_true, if_false, if_true] at hR
        have HR := Lib.hid hR
        clear hR hsg
        go_wp2_with (go_at_call 35; refine (HRun.out _).mono ?_; rintro e w1 ⟨rfl, rfl⟩)
        refine HDec.out.mono ?_
        rintro e w2 ⟨rfl, hb2⟩
        have HB2 := Lib.hid (((Below.refl w.heap.size w).alloc (Nat.le_refl _) (.cells #[.int .i64 0, .string ⟨#[]⟩, .int .u64 0, .int .i64 0, .int .i64 0] 37)).trans (hb2.mono (by simp)))
        have BK := Lib.hid ((Bk.new w 37 #[.int .i64 0, .string ⟨#[]⟩, .int .u64 0, .int .i64 0, .int .i64 0]).below hb2 (by simp))
        have k0 := BK.out.cell 0
        have k1 := BK.out.cell 1
        have k2 := BK.out.cell 2
        have k3 := BK.out.cell 3
        have k4 := BK.out.cell 4
        have f0 := BK.out.frozen 0
        have f1 := BK.out.frozen 1
        have f2 := BK.out.frozen 2
        have f3 := BK.out.frozen 3
        have f4 := BK.out.frozen 4
        simp at k0 k1 k2 k3 k4
        have hz2 := BK.out.lt
        clear hb2 hfrom
        go_wp2_with (go_at_call 38; refine (HSg.out _).mono ?_; rintro e w1 ⟨rfl, rfl⟩)
        first
        | skip
          have BL := ((((BK.out.set_ 0 (.int .i64 0)).set_ 1 (.string ⟨#[]⟩)).set_ 2 (.int .u64 0)).set_ 3 (.int .i64 0)).set_ 4 (.int .i64 0)
          have r0 := BL.cell 0
          have r1 := BL.cell 1
          have r2 := BL.cell 2
          have r3 := BL.cell 3
          have r4 := BL.cell 4
          simp at r0 r1 r2 r3 r4
          refine ⟨rfl, .tuple #[tokV R.1, .bool R.2.1, .int .i64 (R.2.2.1 : Nat), .int .i64 R.2.2.2], ?_, rfl, ?_⟩
          · rw [← HR.out]; simp [results, Tryd.results26, go_sem, tokV, tok0, r0, r1, r2, r3, r4]
          · exact ((((HB2.out.setCell (p := ⟨w.heap.size, 0, none⟩) (Nat.le_refl _) _).setCell (p := ⟨w.heap.size, 1, none⟩) (Nat.le_refl _) _).setCell (p := ⟨w.heap.size, 2, none⟩) (Nat.le_refl _) _).setCell (p := ⟨w.heap.size, 3, none⟩) (Nat.le_refl _) _).setCell (p := ⟨w.heap.size, 4, none⟩) (Nat.le_refl _) _
        | skip
          have BL := ((((BK.out.set_ 0 (.int .i64 2)).set_ 1 (.string Y)).set_ 2 (.int .u64 0)).set_ 3 (.int .i64 (p : Int))).set_ 4 (.int .i64 line)
          have r0 := BL.cell 0
          have r1 := BL.cell 1
          have r2 := BL.cell 2
          have r3 := BL.cell 3
          have r4 := BL.cell 4
          simp at r0 r1 r2 r3 r4
          refine ⟨rfl, .tuple #[tokV R.1, .bool R.2.1, .int .i64 (R.2.2.1 : Nat), .int .i64 R.2.2.2], ?_, rfl, ?_⟩
          · rw [← HR.out]; simp [results, Tryd.results26, go_sem, tokV, r0, r1, r2, r3, r4]
          · exact ((((HB2.out.setCell (p := ⟨w.heap.size, 0, none⟩) (Nat.le_refl _) _).setCell (p := ⟨w.heap.size, 1, none⟩) (Nat.le_refl _) _).setCell (p := ⟨w.heap.size, 2, none⟩) (Nat.le_refl _) _).setCell (p := ⟨w.heap.size, 3, none⟩) (Nat.le_refl _) _).setCell (p := ⟨w.heap.size, 4, none⟩) (Nat.le_refl _) _
end Go.Proofs.YthfienjmajllpaaDoor
