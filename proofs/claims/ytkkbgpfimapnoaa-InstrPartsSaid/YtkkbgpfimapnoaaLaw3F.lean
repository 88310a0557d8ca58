/-
  Chapter 3: the walk of InstrBack.
-/
import Derived.Test.YtkkbgpfimapnoaaLaw3D
import Derived.Test.YtkkbgpfimapnoaaLaw3E
namespace Go.Proofs.Ytkkbgpfimapnoaa
open Go.RowKit
set_option linter.unusedVariables false

theorem and1023 (x : Int) : 0 ≤ bits .and .i64 x 1023 ∧ bits .and .i64 x 1023 ≤ 1023 := by
  show 0 ≤ IntKind.i64.wrap ((BitVec.ofInt 64 x &&& BitVec.ofInt 64 1023).toNat : Int) ∧ IntKind.i64.wrap ((BitVec.ofInt 64 x &&& BitVec.ofInt 64 1023).toNat : Int) ≤ 1023
  have h : (BitVec.ofInt 64 x &&& BitVec.ofInt 64 1023).toNat ≤ 1023 := by
    rw [BitVec.toNat_and]
    exact Nat.le_trans Nat.and_le_right (by decide)
  rw [IntKind.wrap_i64]
  omega

theorem numL_byts (n : Int) (k : Nat) : Byts (numL n k) := by
  intro x hx
  obtain ⟨j, _, rfl⟩ := List.mem_map.1 hx
  omega
theorem progB_byts {l : List Ins} (hp : l.all Ins.plain = true) : Byts (progB l) := by
  intro x hx
  unfold progB at hx
  rcases List.mem_append.1 hx with hx | hx
  · rcases List.mem_append.1 hx with hx | hx
    · simp at hx; omega
    · exact numL_byts _ _ x hx
  · obtain ⟨i, hi, hx⟩ := List.mem_flatMap.1 hx
    have hb := plain_bd (List.all_eq_true.1 hp i hi)
    rcases List.mem_append.1 hx with hx | hx
    · simp at hx; omega
    · exact numL_byts _ _ x hx
theorem byts_snoc {l : List Int} (h : Byts l) (x : Int) : Byts (l ++ [x % 256]) := by
  intro z hz
  rcases List.mem_append.1 hz with hz | hz
  · exact h z hz
  · simp at hz; omega
theorem decAt_ok {bs : List Int} (hy : Byts bs) (k : Nat) : (decAt bs k).Ok := by
  have h : Byts ((bs.drop (4 + 12 * k + 4)).take 8) := fun x hx => hy x (List.mem_of_mem_drop (List.mem_of_mem_take hx))
  have g := getL_bd _ h
  have hl : ((bs.drop (4 + 12 * k + 4)).take 8).length ≤ 8 := by rw [List.length_take]; omega
  have e : (256 : Int) ^ ((bs.drop (4 + 12 * k + 4)).take 8).length ≤ 256 ^ 8 := by
    have := Nat.pow_le_pow_right (n := 256) (by decide) hl
    have h2 := Int.ofNat_le.2 this
    rw [Int.natCast_pow, Int.natCast_pow] at h2
    exact h2
  have h0 := hy.getD_ (4 + 12 * k)
  have h1 := hy.getD_ (4 + 12 * k + 1)
  have h2 := hy.getD_ (4 + 12 * k + 2)
  have h3 := hy.getD_ (4 + 12 * k + 3)
  refine ⟨?_, ?_, ?_, ?_, ?_⟩
  all_goals (simp only [decAt]; omega)
theorem decIns_ok {bs : List Int} (hy : Byts bs) : ∀ i ∈ decIns bs, i.Ok := by
  intro i hi
  unfold decIns at hi
  split at hi
  · obtain ⟨k, _, rfl⟩ := List.mem_map.1 hi
    exact decAt_ok hy k
  · simp at hi

set_option maxHeartbeats 4000000 in
theorem back_good (l : List Ins) (A : Option Addr) (n c : Nat) (bs : List Int) (A' : Option Addr) (m c' : Nat) (cut : Int) (w : World)
    (hr : RdI w w.heap.size A n l) (hok : ∀ i ∈ l, i.Ok) (hr' : RdB w w.heap.size A' m bs) (hy : Byts bs) (hc' : m ≤ c')
    (hcut : -9223372036854775808 ≤ cut ∧ cut ≤ 9223372036854775807) (hn : n ≤ 40) (hm : m ≤ 600) (hp : l.all Ins.plain = true) :
    Calls Try.prog 4 #[.slice A n c, .slice A' m c', .int .i64 cut] w fun e w' => e = .returned (.bool true) ∧ Below w.heap.size w w' := by
  obtain ⟨i0, hi0, hz0, hz1, hz2⟩ := info_parts info_u8
  have HL := Lib.hid hr.insLen
  have HR := Lib.hid hr
  have HR' := Lib.hid hr'
  have HK := Lib.hid hok
  have HY := Lib.hid hy
  have HZ : Hid (encCode l = 0) := by
    show _ = _
    rw [encCode, if_neg (by rw [HL.out]; omega), if_pos hp]
  have HD := Lib.hid (decode_prog hok (by rw [HL.out]; omega) hp)
  clear hr hr' hok hy
  obtain ⟨y, hyq⟩ : ∃ y, bits .and .i64 cut 1023 = y := ⟨_, rfl⟩
  have hy1 := and1023 cut
  rw [hyq] at hy1
  go_enter Try.func4, Try.ntmps4
  go_wp2_with fail
  refine (alive_any _).mono ?_
  rintro e w1 ⟨rfl, hb1⟩
  have HB1 := Lib.hid hb1
  clear hb1
  go_wp2_with fail
  refine (encode_any l A n c _ ((HR.out.below HB1.out).more HB1.out.size) HK.out).mono ?_
  intro e w2 he
  obtain ⟨A2, c2, he', hc2, r2, hb2⟩ := encPost_good he HZ.out
  rw [HL.out] at he' r2 hc2
  obtain ⟨N, hN⟩ : ∃ N, N = 4 + 12 * n := ⟨_, rfl⟩
  rw [← hN] at he' r2 hc2
  subst he'
  have hN2 : N ≤ 484 := by omega
  have hN4 : 4 ≤ N := by omega
  have HN := Lib.hid hN
  clear hN
  have HB2 := Lib.hid (HB1.out.trans (hb2.mono HB1.out.size))
  have R2 := Lib.hid r2
  clear he r2 hb2
  have HPY : Hid (Byts (progB l)) := progB_byts hp
  go_wp2_with fail
  refine (decode_any (progB l) A2 N c2 _ R2.out HPY.out hc2).mono ?_
  intro e w3 he
  obtain ⟨A3, c3, he', hc3, r3, hb3⟩ := decPost_rd he
  rw [HD.out.1, HD.out.2, HL.out] at he'
  rw [HD.out.2, HL.out] at r3 hc3
  subst he'
  have HB3 := Lib.hid (HB2.out.trans (hb3.mono HB2.out.size))
  have R3 := Lib.hid r3
  have R2' := Lib.hid ((R2.out.below hb3).more hb3.size)
  clear he r3 hb3
  obtain ⟨q, hq⟩ : ∃ q : Nat, y % (N : Int) = q := ⟨(y % (N : Int)).toNat, by rw [Int.toNat_of_nonneg (Int.emod_nonneg _ (by omega))]⟩
  have hqN : q < N := by have := Int.emod_lt_of_pos y (show (0 : Int) < N by omega); omega
  obtain ⟨A4, s4, r4⟩ := cut_h (P := Try.prog) 23 elem_u8s size_u8s R2'.out hc2 q q rfl (by omega)
  rw [Nat.mul_one, byt_take] at r4
  have R4 := Lib.hid r4
  have HC4 : Hid (decCode ((progB l).take q) = 34) := decode_cut (by rw [HL.out]; omega) (by rw [HL.out, ← HN.out]; exact hqN)
  have HI4 : Hid (decIns ((progB l).take q) = []) := by show _ = _; rw [decIns, HC4.out, if_neg (by decide)]
  clear r4
  go_wp2_with fail
  refine (decode_any ((progB l).take q) A4 q c2 _ R4.out (fun x hx => HPY.out x (List.mem_of_mem_take hx)) (by omega)).mono ?_
  intro e w4 he
  obtain ⟨A5, c5, he', hc5, r5, hb4⟩ := decPost_rd he
  rw [HC4.out, HI4.out, List.length_nil] at he'
  subst he'
  have HB4 := Lib.hid (HB3.out.trans (hb4.mono HB3.out.size))
  have R3' := Lib.hid ((R3.out.below hb4).more hb4.size)
  have R2s := Lib.hid ((R2'.out.below hb4).more hb4.size)
  clear he r5 hc5 hb4 R2' s4
  have OWN0 : Hid ((w4.alloc (.cells #[] 5)).ownsRow w4.heap.size 5 1 (.slice (some ⟨w4.heap.size, 0, none⟩) 0 0) 0 []) := World.ownsRow_made w4 #[] 0 (Nat.le_refl _) (by simp [maxLen]) rfl
  have RD0 := Lib.hid (R2s.out.alloc (Nat.le_refl _) (.cells #[] 5))
  have tok1 : True := trivial
  have tok2 : True := trivial
  go_wp2_with (first
    | (at_builtin
       have _t := tok1
       go_must (
         refine wpList_app _ rfl (.tmp 53) (.tmp 54) 23 rfl w4.heap.size 5 i0 _ 1 1 Try.underlying23 hi0 hz0 hz1 hz2 rfl (by omega) _ 0 [] rfl OWN0.out _ _ N c2 _ rfl RD0.out (byt_one _) ?_ ?_ ?_ ?_
         · simp only [maxLen]; omega
         · omega
         · simp
         intro v5 w5 hown5 hg5 _
         rw [List.nil_append, Nat.zero_add] at hown5
         have HO5 := Lib.hid hown5
         have HB45 := Lib.hid (below_own ((Below.refl w4.heap.size w4).alloc (Nat.le_refl _) _) OWN0.out hg5 (Nat.le_refl _) (by simp))
         have HB5 := Lib.hid (below_own (HB4.out.alloc HB4.out.size _) OWN0.out hg5 HB4.out.size (by simp; have := HB4.out.size; omega))
         have hz5 := hg5.size
         clear hown5 hg5 _t tok1))
    | (at_builtin
       have _t := tok2
       go_must (
         refine wpList_app _ rfl (.tmp 55) (.tmp 58) 23 rfl w4.heap.size 5 i0 _ 1 1 Try.underlying23 hi0 hz0 hz1 hz2 rfl (by omega) _ N _ rfl (HO5.out.alloc _) _ _ 1 1 (byt [cut % 256]) rfl (Rd.new w5 #[.int .u8 (cut % 256)] 5 rfl (by simp [maxLen])) (byt_one _) ?_ ?_ ?_ ?_
         · simp only [maxLen]; omega
         · omega
         · simp at hz5 ⊢; omega
         intro v6 w6 hown6 hg6 _
         rw [← byt_append] at hown6
         have HO6 := Lib.hid hown6
         have HB46 := Lib.hid (below_own (HB45.out.alloc HB45.out.size _) (HO5.out.alloc _) hg6 (Nat.le_refl _) (by simp; have := HB45.out.size; omega))
         have HB6 := Lib.hid (below_own (HB5.out.alloc HB5.out.size _) (HO5.out.alloc _) hg6 HB4.out.size (by simp; have := HB5.out.size; omega))
         clear hown6 hg6 _t tok2)))
  obtain ⟨A6, c6, hv6, hc6, r6⟩ := Rd.of_own_cap HO6.out
  subst hv6
  have R6 := Lib.hid r6
  have HC7 : Hid (decCode (progB l ++ [cut % 256]) = 35) := decode_more (by rw [HL.out]; omega) _
  have HI7 : Hid (decIns (progB l ++ [cut % 256]) = []) := by show _ = _; rw [decIns, HC7.out, if_neg (by decide)]
  clear r6 HO6 hz5 OWN0 RD0 HO5
  go_wp2_with fail
  refine (decode_any (progB l ++ [cut % 256]) A6 (N + 1) c6 _ R6.out (byts_snoc HPY.out cut) hc6).mono ?_
  intro e w7 he
  obtain ⟨A7, c7, he', hc7, r7, hb7⟩ := decPost_rd he
  rw [HC7.out, HI7.out, List.length_nil] at he'
  subst he'
  have HB7 := Lib.hid (HB6.out.trans (hb7.mono HB6.out.size))
  have R3t := Lib.hid ((R3'.out.below HB46.out).below (hb7.mono HB46.out.size))
  have R3z := Lib.hid (R3t.out.more (Nat.le_trans HB46.out.size hb7.size))
  clear he r7 hb7 hc7
  go_wp2_with fail
  refine (same_any _ _ _ _ _ _ _ _ _ R3z.out ((HR.out.below HB7.out).more HB7.out.size)).mono ?_
  rintro e wy ⟨rfl, hby⟩
  have HBy := Lib.hid (HB7.out.trans (hby.mono HB7.out.size))
  clear hby
  rw [decide_eq_true rfl]
  by_cases hz : decCode bs = 0
  · have HE := Lib.hid (encode_dec HY.out hz)
    have HK8 := Lib.hid (decIns_ok HY.out)
    have HZ8 := Lib.hid hz
    go_wp2_with fail
    refine (decode_any bs A' m c' _ ((HR'.out.below HBy.out).more HBy.out.size) HY.out hc').mono ?_
    intro e w8 he
    obtain ⟨A8, c8, he', hc8, r8, hb8⟩ := decPost_rd he
    rw [HZ8.out] at he'
    have hM : (decIns bs).length ≤ 300 := by
      have h1 := congrArg List.length HE.out.2
      rw [progB, List.length_append, List.length_append, bodyB_length, numL_length, HR'.out.bytLen] at h1
      simp at h1; omega
    have HLd : Hid (4 + 12 * (decIns bs).length = m) := by
      show _ = _
      have h1 := congrArg List.length HE.out.2
      rw [progB, List.length_append, List.length_append, bodyB_length, numL_length, HR'.out.bytLen] at h1
      simp at h1; omega
    generalize hg : (decIns bs).length = K at *
    have HG := Lib.hid hg
    subst he'
    have HB8 := Lib.hid (HBy.out.trans (hb8.mono HBy.out.size))
    have R8 := Lib.hid r8
    clear he r8 hb8 hg hz
    go_wp2_with fail
    refine (encode_any (decIns bs) A8 K c8 _ R8.out HK8.out).mono ?_
    intro e w9 he
    obtain ⟨A9, c9, he', hc9, r9, hb9⟩ := encPost_good he HE.out.1
    rw [HG.out, HLd.out] at he' r9 hc9
    rw [HE.out.2] at r9
    subst he'
    have HB9 := Lib.hid (HB8.out.trans (hb9.mono HB8.out.size))
    have hcv := conv_str (P := Try.prog) (c := c9) 23 9 5 Try.underlying23 Try.underlying5 Try.underlying9 r9
    have hcv2 := conv_str (P := Try.prog) (c := c') 23 9 5 Try.underlying23 Try.underlying5 Try.underlying9 (HR'.out.below HB9.out)
    clear he r9 hb9
    go_wp2_with fail
    go_ret
    exact ⟨ret_bool (by simp), HB9.out⟩
  · have hz1 : (decCode bs == 0) = false := by simpa using hz
    have hz2 : (decCode bs != 0) = true := by simpa using hz
    have HI8 : Hid (decIns bs = []) := by show _ = _; rw [decIns, if_neg hz]
    clear hz
    go_wp2_with fail
    refine (decode_any bs A' m c' _ ((HR'.out.below HBy.out).more HBy.out.size) HY.out hc').mono ?_
    intro e w8 he
    obtain ⟨A8, c8, he', hc8, r8, hb8⟩ := decPost_rd he
    rw [HI8.out, List.length_nil] at he'
    subst he'
    have HB8 := Lib.hid (HBy.out.trans (hb8.mono HBy.out.size))
    clear he r8 hb8 hc8
    go_wp2_with fail
    go_ret
    exact ⟨ret_bool (by simp), HB8.out⟩

set_option maxHeartbeats 4000000 in
theorem back_bad (l : List Ins) (A : Option Addr) (n c : Nat) (bs : List Int) (A' : Option Addr) (m c' : Nat) (cut : Int) (w : World)
    (hr : RdI w w.heap.size A n l) (hok : ∀ i ∈ l, i.Ok) (hr' : RdB w w.heap.size A' m bs) (hy : Byts bs) (hc' : m ≤ c')
    (hn : n ≤ 40) (hm : m ≤ 600) (hp : l.all Ins.plain = false) :
    Calls Try.prog 4 #[.slice A n c, .slice A' m c', .int .i64 cut] w fun e w' => e = .returned (.bool true) ∧ Below w.heap.size w w' := by
  have HL := Lib.hid hr.insLen
  have HR := Lib.hid hr
  have HR' := Lib.hid hr'
  have HK := Lib.hid hok
  have HY := Lib.hid hy
  have HZ : Hid (encCode l = 30) := by
    show _ = _
    rw [encCode, if_neg (by rw [HL.out]; omega), if_neg (by rw [hp]; decide)]
  clear hr hr' hok hy hp
  go_enter Try.func4, Try.ntmps4
  go_wp2_with fail
  refine (alive_any _).mono ?_
  rintro e w1 ⟨rfl, hb1⟩
  have HB1 := Lib.hid hb1
  clear hb1
  go_wp2_with fail
  refine (encode_any l A n c _ ((HR.out.below HB1.out).more HB1.out.size) HK.out).mono ?_
  intro e w2 he
  obtain ⟨v2, A2, c2, he', hv2, hb2⟩ := encPost_zero he (by rw [HZ.out]; decide)
  subst hv2
  rw [HZ.out] at he'
  subst he'
  have HB2 := Lib.hid (HB1.out.trans (hb2.mono HB1.out.size))
  clear he hb2
  by_cases hz : decCode bs = 0
  · have HE := Lib.hid (encode_dec HY.out hz)
    have HK8 := Lib.hid (decIns_ok HY.out)
    have HZ8 := Lib.hid hz
    go_wp2_with fail
    refine (decode_any bs A' m c' _ ((HR'.out.below HB2.out).more HB2.out.size) HY.out hc').mono ?_
    intro e w8 he
    obtain ⟨A8, c8, he', hc8, r8, hb8⟩ := decPost_rd he
    rw [HZ8.out] at he'
    have hM : (decIns bs).length ≤ 300 := by
      have h1 := congrArg List.length HE.out.2
      rw [progB, List.length_append, List.length_append, bodyB_length, numL_length, HR'.out.bytLen] at h1
      simp at h1; omega
    have HLd : Hid (4 + 12 * (decIns bs).length = m) := by
      show _ = _
      have h1 := congrArg List.length HE.out.2
      rw [progB, List.length_append, List.length_append, bodyB_length, numL_length, HR'.out.bytLen] at h1
      simp at h1; omega
    generalize hg : (decIns bs).length = K at *
    have HG := Lib.hid hg
    subst he'
    have HB8 := Lib.hid (HB2.out.trans (hb8.mono HB2.out.size))
    have R8 := Lib.hid r8
    clear he r8 hb8 hg hz
    go_wp2_with fail
    refine (encode_any (decIns bs) A8 K c8 _ R8.out HK8.out).mono ?_
    intro e w9 he
    obtain ⟨A9, c9, he', hc9, r9, hb9⟩ := encPost_good he HE.out.1
    rw [HG.out, HLd.out] at he' r9 hc9
    rw [HE.out.2] at r9
    subst he'
    have HB9 := Lib.hid (HB8.out.trans (hb9.mono HB8.out.size))
    have hcv := conv_str (P := Try.prog) (c := c9) 23 9 5 Try.underlying23 Try.underlying5 Try.underlying9 r9
    have hcv2 := conv_str (P := Try.prog) (c := c') 23 9 5 Try.underlying23 Try.underlying5 Try.underlying9 (HR'.out.below HB9.out)
    clear he r9 hb9
    go_wp2_with fail
    go_ret
    exact ⟨ret_bool (by simp), HB9.out⟩
  · have hz1 : (decCode bs == 0) = false := by simpa using hz
    have hz2 : (decCode bs != 0) = true := by simpa using hz
    have HI8 : Hid (decIns bs = []) := by show _ = _; rw [decIns, if_neg hz]
    clear hz
    go_wp2_with fail
    refine (decode_any bs A' m c' _ ((HR'.out.below HB2.out).more HB2.out.size) HY.out hc').mono ?_
    intro e w8 he
    obtain ⟨A8, c8, he', hc8, r8, hb8⟩ := decPost_rd he
    rw [HI8.out, List.length_nil] at he'
    subst he'
    have HB8 := Lib.hid (HB2.out.trans (hb8.mono HB2.out.size))
    clear he r8 hb8 hc8
    go_wp2_with fail
    go_ret
    exact ⟨ret_bool (by simp), HB8.out⟩

theorem back_walk (l : List Ins) (A : Option Addr) (n c : Nat) (bs : List Int) (A' : Option Addr) (m c' : Nat) (cut : Int) (w : World)
    (hr : RdI w w.heap.size A n l) (hok : ∀ i ∈ l, i.Ok) (_ : n ≤ c) (hr' : RdB w w.heap.size A' m bs) (hy : Byts bs) (hc' : m ≤ c')
    (hcut : -9223372036854775808 ≤ cut ∧ cut ≤ 9223372036854775807) :
    Calls Try.prog 4 #[.slice A n c, .slice A' m c', .int .i64 cut] w fun e w' => e = .returned (.bool true) ∧ Below w.heap.size w w' := by
  by_cases h : n ≤ 40 ∧ m ≤ 600
  · cases hp : l.all Ins.plain
    · exact back_bad l A n c bs A' m c' cut w hr hok hr' hy hc' h.1 h.2 hp
    · exact back_good l A n c bs A' m c' cut w hr hok hr' hy hc' hcut h.1 h.2 hp
  · have h63 := hr.le
    have h63' := hr'.le
    unfold maxLen at h63 h63'
    have h2 : 40 < n ∨ (n ≤ 40 ∧ 600 < m) := by omega
    clear h hr hok hr' hy
    rcases h2 with h1 | ⟨h1, h2⟩
    all_goals
      go_enter Try.func4, Try.ntmps4
      go_wp2_with fail
      refine (alive_any _).mono ?_
      rintro e w1 ⟨rfl, hb1⟩
      have HB1 := Lib.hid hb1
      clear hb1
      go_wp2
      go_ret
      exact ⟨rfl, HB1.out⟩
end Go.Proofs.Ytkkbgpfimapnoaa
