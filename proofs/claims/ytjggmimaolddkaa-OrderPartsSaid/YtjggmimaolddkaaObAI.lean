/-
  Texts of one proof, joined (wip/gen/pack.py): SrtE, SrtF, SrtG, ModS, LawM6P, LayA.
-/
import Derived.Test.YtjggmimaolddkaaObAG
import Derived.Sort.Walk11
import Derived.Test.YtjggmimaolddkaaObAH
import Derived.Sort.Walk13
import Derived.Sort.AssemblyPlain
import Derived.Sort.WalkA14
import Derived.Test.YtjggmimaolddkaaObAF
import Derived.Test.YtjggmimaolddkaaObAE
import Derived.Test.YtjggmimaolddkaaRows
import Derived.Test.YtjggmimaolddkaaObAA
import Derived.WalkKit
import Derived.Handy
import Derived.WalkLawsBesides
import Derived.WalkSpells
import Derived.Outline
import Derived.BigQuiet
import Derived.Deep.Cut
import Derived.Deep.RegionHeld3
import Derived.Laws.ResultCell
namespace Go.Proofs.Ytjggmimaolddkaa
open Go.Sort Go.RowKit
set_option linter.unusedVariables false

theorem holds_asideU {w : World} {blk off sb so n t : Nat} {d : Array Int} (h : Holds (Value.int .u64) w blk off d) (hne : sb ≠ blk) : Holds (Value.int .u64) (putRow (Value.int .i64) (Sort.ahead w n) sb so (one t)) blk off d := fun j hj =>
  ⟨by rw [cell?_putRow_other _ _ _ _ _ _ (Or.inl (Ne.symm hne))]; exact (h j hj).1, by rw [frozen?_putRow]; exact (h j hj).2⟩
set_option maxHeartbeats 1000000 in
theorem srt_order2_u64 (d : Array Int) (len : Nat) (hlen : d.size = len) (blk off cap a b sb so s : Nat) (w : World) (hH : Holds (Value.int .u64) w blk off d) (ha : a < d.size) (hb : b < d.size)
    (hS : Holds (Value.int .i64) w sb so (one s)) (hs : s < 2 ^ 62) :
    Calls Try.prog 104 #[.slice (some ⟨blk, off, none⟩) len cap, .int .i64 a, .int .i64 b, .pointer (some ⟨sb, so, none⟩)] w fun e w' =>
      e = .returned (.tuple #[.int .i64 (order2 ltInt d a b s).1, .int .i64 (order2 ltInt d a b s).2.1]) ∧ ∃ n, w' = putRow (Value.int .i64) (Sort.ahead w n) sb so (one (order2 ltInt d a b s).2.2) := by
  subst hlen
  replace hs : s < 4611686018427387904 := by omega
  have ca := (hH a ha).1
  have cb := (hH b hb).1
  obtain ⟨cs, fs⟩ := one_cell hS
  have ea : d[a]! = d[a] := getElem!_pos d a ha
  have eb : d[b]! = d[b] := getElem!_pos d b hb
  go_enter Try.func104, Try.ntmps104
  go_wp2
  go_region_with (go_at_call 83; refine (srt_cmp_Less_u64 _ _ _).mono ?_; rintro e w' ⟨rfl, rfl⟩)
  all_goals (try go_wp2)
  all_goals first
    | (have hlt : ltInt d[b] d[a] = true := by assumption
       have e2 : order2 ltInt d a b s = (b, a, s + 1) := by simp [order2, ea, eb, hlt]
       go_ret2
       rw [e2]
       refine ⟨rfl, 1, ?_⟩
       rw [putRow_ahead, ← one_set hS (s + 1)]
       simp [drew_eq_ahead])
    | (have hlt : ltInt d[b] d[a] = false := by assumption
       have e2 : order2 ltInt d a b s = (a, b, s) := by simp [order2, ea, eb, hlt]
       go_ret2
       rw [e2]
       refine ⟨rfl, 1, ?_⟩
       rw [putRow_ahead, putRow_self _ _ _ _ _ hS]
       rfl)
set_option maxHeartbeats 1000000 in
set_option maxRecDepth 100000 in
theorem srt_median_u64 (d : Array Int) (len : Nat) (hlen : d.size = len) (blk off cap a b c sb so s : Nat) (w : World) (hH : Holds (Value.int .u64) w blk off d) (ha : a < d.size) (hb : b < d.size) (hc : c < d.size) (hne : sb ≠ blk)
    (hS : Holds (Value.int .i64) w sb so (one s)) (hs : s + 3 < 2 ^ 62) :
    Calls Try.prog 97 #[.slice (some ⟨blk, off, none⟩) len cap, .int .i64 a, .int .i64 b, .int .i64 c, .pointer (some ⟨sb, so, none⟩)] w fun e w' =>
      e = .returned (.int .i64 (median ltInt d a b c s).1) ∧ ∃ n, w' = putRow (Value.int .i64) (Sort.ahead w n) sb so (one (median ltInt d a b c s).2) := by
  subst hlen
  have l1 := order2_lt d s ha hb
  have s1 := order2_swaps d a b s
  have l2 := order2_lt d (order2 ltInt d a b s).2.2 l1.2 hc
  have s2 := order2_swaps d (order2 ltInt d a b s).2.1 c (order2 ltInt d a b s).2.2
  go_enter Try.func97, Try.ntmps97
  go_wp2_with (go_at_call_of 104 (Value.int .i64 (b : Int)); refine (srt_order2_u64 d _ rfl blk off cap a b sb so s w hH ha hb hS (by omega)).mono ?_; rintro e w' ⟨rfl, n1, rfl⟩)
  go_wp2_with (go_at_call_of 104 (Value.int .i64 (c : Int)); refine (srt_order2_u64 d _ rfl blk off cap (order2 ltInt d a b s).2.1 c sb so (order2 ltInt d a b s).2.2 _ (holds_asideU hH hne) l1.2 hc (holds_one hS) (by omega)).mono ?_; rintro e w' ⟨rfl, n2, rfl⟩)
  go_wp2_with (go_at_call_of 104 (Value.int .i64 ((order2 ltInt d a b s).1 : Int)); refine (srt_order2_u64 d _ rfl blk off cap (order2 ltInt d a b s).1 (order2 ltInt d (order2 ltInt d a b s).2.1 c (order2 ltInt d a b s).2.2).1 sb so (order2 ltInt d (order2 ltInt d a b s).2.1 c (order2 ltInt d a b s).2.2).2.2 _
    (holds_asideU (holds_asideU hH hne) hne) l1.1 l2.1 (holds_one (holds_one hS)) (by omega)).mono ?_; rintro e w' ⟨rfl, n3, rfl⟩)
  go_ret
  refine ⟨rfl, n1 + (n2 + n3), ?_⟩
  rw [one_one, one_one]
  rfl
set_option maxHeartbeats 1000000 in
set_option maxRecDepth 100000 in
theorem srt_medianAdjacent_u64 (d : Array Int) (len : Nat) (hlen : d.size = len) (blk off cap a sb so s : Nat) (w : World) (hH : Holds (Value.int .u64) w blk off d) (ha0 : 1 ≤ a) (ha : a + 1 < d.size) (hsz : d.size < 2 ^ 62) (hne : sb ≠ blk)
    (hS : Holds (Value.int .i64) w sb so (one s)) (hs : s + 3 < 2 ^ 62) :
    Calls Try.prog 96 #[.slice (some ⟨blk, off, none⟩) len cap, .int .i64 a, .pointer (some ⟨sb, so, none⟩)] w fun e w' =>
      e = .returned (.int .i64 (medianAdjacent ltInt d a s).1) ∧ ∃ n, w' = putRow (Value.int .i64) (Sort.ahead w n) sb so (one (medianAdjacent ltInt d a s).2) := by
  subst hlen
  replace hsz : d.size < 4611686018427387904 := by omega
  go_enter Try.func96, Try.ntmps96
  go_wp2_with (go_at_call 97; rw [show ((a : Int) - 1) = ((a - 1 : Nat) : Int) by omega, show ((a : Int) + 1) = ((a + 1 : Nat) : Int) by omega]; refine (srt_median_u64 d _ rfl blk off cap (a - 1) a (a + 1) sb so s w hH (by omega) (by omega) ha hne hS hs).mono ?_; rintro e w' ⟨rfl, n1, rfl⟩)
  go_ret
  exact ⟨rfl, n1, rfl⟩
theorem counter_growU (w : World) (N S : Nat) : ∃ os, putRow (Value.int .i64) (Sort.ahead (w.alloc (.cells #[.int .i64 0] 3)) N) w.heap.size 0 (one S) = grow (Sort.ahead w N) os := by
  rw [alloc_eq_grow, ahead_grow]
  obtain ⟨os, _, h⟩ := putRow_grow_new (Value.int .i64) (Sort.ahead w N) #[.cells #[.int .i64 0] 3] w.heap.size 0 (one S) (Nat.le_refl _)
  exact ⟨os, h⟩
theorem pivot_world_u64 (blk off cap : Nat) (d : Array Int) (w : World) (hH : Holds (Value.int .u64) w blk off d) (hblk : blk < w.heap.size) (hsz : d.size < 4611686018427387904) :
    ∃ Wc : Nat → Nat → World,
      w.alloc (.cells #[.int .i64 0] 3) = Wc 0 0 ∧
      (∀ N S : Nat, (Wc N S).cell? ⟨w.heap.size, 0, none⟩ = some (.int .i64 (S : Int))) ∧
      (∀ N S : Nat, ∃ os, Wc N S = grow (Sort.ahead w N) os) ∧
      (∀ x s N : Nat, 1 ≤ x → x + 1 < d.size → s + 3 < 4611686018427387904 → Calls Try.prog 96 #[.slice (some ⟨blk, off, none⟩) d.size cap, .int .i64 (x : Int), .pointer (some ⟨w.heap.size, 0, none⟩)] (Wc N s) fun e w' =>
        e = .returned (.int .i64 ((medianAdjacent ltInt d x s).1 : Int)) ∧ ∃ N', w' = Wc N' (medianAdjacent ltInt d x s).2) ∧
      (∀ x y z s N : Nat, x < d.size → y < d.size → z < d.size → s + 3 < 4611686018427387904 → Calls Try.prog 97 #[.slice (some ⟨blk, off, none⟩) d.size cap, .int .i64 (x : Int), .int .i64 (y : Int), .int .i64 (z : Int), .pointer (some ⟨w.heap.size, 0, none⟩)] (Wc N s) fun e w' =>
        e = .returned (.int .i64 ((median ltInt d x y z s).1 : Int)) ∧ ∃ N', w' = Wc N' (median ltInt d x y z s).2) := by
  have hne : w.heap.size ≠ blk := by omega
  have hH0 : Holds (Value.int .u64) (w.alloc (.cells #[.int .i64 0] 3)) blk off d := by rw [alloc_eq_grow]; exact holds_grow _ _ _ _ _ _ hblk hH
  have hS0 : Holds (Value.int .i64) (w.alloc (.cells #[.int .i64 0] 3)) w.heap.size 0 (one 0) := fun j hj => by
    obtain rfl : j = 0 := by simpa using hj
    simp
  refine ⟨fun N S => putRow (Value.int .i64) (Sort.ahead (w.alloc (.cells #[.int .i64 0] 3)) N) w.heap.size 0 (one S), (putRow_self _ _ _ _ _ hS0).symm, fun N S => (one_cell (holds_one (n := N) (t := S) hS0)).1, fun N S => counter_growU w N S, ?_, ?_⟩
  · intro x s N h1 h2 hs
    refine (srt_medianAdjacent_u64 d _ rfl blk off cap x w.heap.size 0 s _ (holds_asideU hH0 hne) h1 h2 (by omega) hne (holds_one hS0) (by omega)).mono ?_
    rintro e w' ⟨he, n, hw⟩
    exact ⟨he, N + n, by rw [hw, one_one]⟩
  · intro x y z s N h1 h2 h3 hs
    refine (srt_median_u64 d _ rfl blk off cap x y z w.heap.size 0 s _ (holds_asideU hH0 hne) h1 h2 h3 hne (holds_one hS0) (by omega)).mono ?_
    rintro e w' ⟨he, n, hw⟩
    exact ⟨he, N + n, by rw [hw, one_one]⟩
set_option maxRecDepth 100000 in
theorem srt_choosePivot_u64 (blk off cap a b : Nat) (d : Array Int) (w : World) (hH : Holds (Value.int .u64) w blk off d) (hblk : blk < w.heap.size) (hab : a < b) (hb : b ≤ d.size) (hsz : d.size < 4611686018427387904) :
    Calls Try.prog 80 #[.slice (some ⟨blk, off, none⟩) d.size cap, .int .i64 a, .int .i64 b] w fun e w' =>
      e = .returned (.tuple #[.int .i64 (choosePivot ltInt d a b).1, .int .i64 (hintCode (choosePivot ltInt d a b).2)]) ∧ ∃ n os, w' = grow (Sort.ahead w n) os := by
  obtain ⟨Wc, hW0, cS, hG, MA, MD⟩ := pivot_world_u64 blk off cap d w hH hblk hsz
  clear hH
  rw [choosePivot_eq]
  obtain ⟨I, hI⟩ : ∃ I : Nat, I = a + (b - a) / 4 * 1 := ⟨_, rfl⟩
  obtain ⟨J, hJ⟩ : ∃ J : Nat, J = a + (b - a) / 4 * 2 := ⟨_, rfl⟩
  obtain ⟨K, hK⟩ : ∃ K : Nat, K = a + (b - a) / 4 * 3 := ⟨_, rfl⟩
  have eI : ((a : Int) + ((b : Int) - (a : Int)) / 4) = (I : Int) := by omega
  have eJ : ((a : Int) + ((b : Int) - (a : Int)) / 4 * 2) = (J : Int) := by omega
  have eK : ((a : Int) + ((b : Int) - (a : Int)) / 4 * 3) = (K : Int) := by omega
  by_cases h8 : b - a ≥ 8
  · by_cases h50 : b - a ≥ 50
    ·
      obtain ⟨i1, s1, h1⟩ : ∃ i1 s1, medianAdjacent ltInt d I 0 = (i1, s1) := ⟨_, _, rfl⟩
      obtain ⟨j1, s2, h2⟩ : ∃ j1 s2, medianAdjacent ltInt d J s1 = (j1, s2) := ⟨_, _, rfl⟩
      obtain ⟨k1, s3, h3⟩ : ∃ k1 s3, medianAdjacent ltInt d K s2 = (k1, s3) := ⟨_, _, rfl⟩
      obtain ⟨p, s, h4⟩ : ∃ p s, median ltInt d i1 j1 k1 s3 = (p, s) := ⟨_, _, rfl⟩
      have hraw : rawPivot ltInt d a b = (p, s) := by simp only [rawPivot, if_pos h8, if_pos h50, ← hI, ← hJ, ← hK, h1, h2, h3, h4]
      have m1 := medianAdjacent_mem ltInt d I 0; rw [h1] at m1
      have m2 := medianAdjacent_mem ltInt d J s1; rw [h2] at m2
      have m3 := medianAdjacent_mem ltInt d K s2; rw [h3] at m3
      have n1 := medianAdjacent_count ltInt d I 0; rw [h1] at n1
      have n2 := medianAdjacent_count ltInt d J s1; rw [h2] at n2
      have n3 := medianAdjacent_count ltInt d K s2; rw [h3] at n3
      simp only [] at m1 m2 m3 n1 n2 n3
      have c1 : Calls Try.prog 96 #[.slice (some ⟨blk, off, none⟩) d.size cap, .int .i64 (I : Int), .pointer (some ⟨w.heap.size, 0, none⟩)] (Wc 0 0) fun e w' => e = .returned (.int .i64 (i1 : Int)) ∧ ∃ N', w' = Wc N' s1 := by
        have h := MA I 0 0 (by omega) (by omega) (by omega); rw [h1] at h; exact h
      have c2 : ∀ N, Calls Try.prog 96 #[.slice (some ⟨blk, off, none⟩) d.size cap, .int .i64 (J : Int), .pointer (some ⟨w.heap.size, 0, none⟩)] (Wc N s1) fun e w' => e = .returned (.int .i64 (j1 : Int)) ∧ ∃ N', w' = Wc N' s2 := fun N => by
        have h := MA J s1 N (by omega) (by omega) (by omega); rw [h2] at h; exact h
      have c3 : ∀ N, Calls Try.prog 96 #[.slice (some ⟨blk, off, none⟩) d.size cap, .int .i64 (K : Int), .pointer (some ⟨w.heap.size, 0, none⟩)] (Wc N s2) fun e w' => e = .returned (.int .i64 (k1 : Int)) ∧ ∃ N', w' = Wc N' s3 := fun N => by
        have h := MA K s2 N (by omega) (by omega) (by omega); rw [h3] at h; exact h
      have c4 : ∀ N, Calls Try.prog 97 #[.slice (some ⟨blk, off, none⟩) d.size cap, .int .i64 (i1 : Int), .int .i64 (j1 : Int), .int .i64 (k1 : Int), .pointer (some ⟨w.heap.size, 0, none⟩)] (Wc N s3) fun e w' => e = .returned (.int .i64 (p : Int)) ∧ ∃ N', w' = Wc N' s := fun N => by
        have h := MD i1 j1 k1 s3 N (by omega) (by omega) (by omega) (by omega); rw [h4] at h; exact h
      rw [hraw]
      obtain ⟨Hc, hHc⟩ : ∃ Hc : Int, Hc = hintCode (hintOf s) := ⟨_, rfl⟩
      have hh0 : s = 0 → Hc = 1 := fun h => by rw [hHc, h]; rfl
      have hh12 : s = 12 → Hc = 2 := fun h => by rw [hHc, h]; rfl
      have hhx : s ≠ 0 → s ≠ 12 → Hc = 0 := fun h1 h2 => by rw [hHc]; unfold hintOf; rw [if_neg h1, if_neg h2]; rfl
      show Calls Try.prog 80 _ w fun e w' => e = .returned (.tuple #[.int .i64 (p : Int), .int .i64 (hintCode (hintOf s))]) ∧ ∃ n os, w' = grow (Sort.ahead w n) os
      rw [← hHc]
      clear hHc hraw
      clear h1 h2 h3 h4 MA MD hI hJ hK m1 m2 m3
      go_enter Try.func80, Try.ntmps80
      go_wp2_with (first
        | (go_at_call_has 96 (Value.int .i64 (I : Int)); refine c1.mono ?_; rintro e w' ⟨rfl, N1, rfl⟩)
        | (go_at_call_has 96 (Value.int .i64 (J : Int)); refine (c2 _).mono ?_; rintro e w' ⟨rfl, N2, rfl⟩)
        | (go_at_call_has 96 (Value.int .i64 (K : Int)); refine (c3 _).mono ?_; rintro e w' ⟨rfl, N3, rfl⟩)
        | (go_at_call 97; refine (c4 _).mono ?_; rintro e w' ⟨rfl, N4, rfl⟩))
      all_goals
        go_ret2
        refine ⟨?_, _, hG _ _⟩
        first
          | (have e0 : (s : Int) = 0 := of_beq_int (by assumption)
             rw [hh0 (by omega)]; rfl)
          | (have e1 : (s : Int) = 12 := of_beq_int (by assumption)
             rw [hh12 (by omega)]; rfl)
          | (have e0 : (s : Int) ≠ 0 := of_bne_int (by assumption)
             have e1 : (s : Int) ≠ 12 := of_bne_int (by assumption)
             rw [hhx (by omega) (by omega)]; rfl)
          | (rw [hh0 (by omega)]; rfl)
    ·
      obtain ⟨p, s, h4⟩ : ∃ p s, median ltInt d I J K 0 = (p, s) := ⟨_, _, rfl⟩
      have hraw : rawPivot ltInt d a b = (p, s) := by simp only [rawPivot, if_pos h8, if_neg h50, ← hI, ← hJ, ← hK, h4]
      have c4 : Calls Try.prog 97 #[.slice (some ⟨blk, off, none⟩) d.size cap, .int .i64 (I : Int), .int .i64 (J : Int), .int .i64 (K : Int), .pointer (some ⟨w.heap.size, 0, none⟩)] (Wc 0 0) fun e w' => e = .returned (.int .i64 (p : Int)) ∧ ∃ N', w' = Wc N' s := by
        have h := MD I J K 0 0 (by omega) (by omega) (by omega) (by omega); rw [h4] at h; exact h
      rw [hraw]
      obtain ⟨Hc, hHc⟩ : ∃ Hc : Int, Hc = hintCode (hintOf s) := ⟨_, rfl⟩
      have hh0 : s = 0 → Hc = 1 := fun h => by rw [hHc, h]; rfl
      have hh12 : s = 12 → Hc = 2 := fun h => by rw [hHc, h]; rfl
      have hhx : s ≠ 0 → s ≠ 12 → Hc = 0 := fun h1 h2 => by rw [hHc]; unfold hintOf; rw [if_neg h1, if_neg h2]; rfl
      show Calls Try.prog 80 _ w fun e w' => e = .returned (.tuple #[.int .i64 (p : Int), .int .i64 (hintCode (hintOf s))]) ∧ ∃ n os, w' = grow (Sort.ahead w n) os
      rw [← hHc]
      clear hHc hraw
      clear h4 MA MD hI hJ hK
      go_enter Try.func80, Try.ntmps80
      go_wp2_with (first | (go_at_call 97; refine c4.mono ?_; rintro e w' ⟨rfl, N4, rfl⟩))
      all_goals
        go_ret2
        refine ⟨?_, _, hG _ _⟩
        first
          | (have e0 : (s : Int) = 0 := of_beq_int (by assumption)
             rw [hh0 (by omega)]; rfl)
          | (have e1 : (s : Int) = 12 := of_beq_int (by assumption)
             rw [hh12 (by omega)]; rfl)
          | (have e0 : (s : Int) ≠ 0 := of_bne_int (by assumption)
             have e1 : (s : Int) ≠ 12 := of_bne_int (by assumption)
             rw [hhx (by omega) (by omega)]; rfl)
          | (rw [hh0 (by omega)]; rfl)
  ·
    obtain ⟨p, hp⟩ : ∃ p : Nat, p = J := ⟨_, rfl⟩
    obtain ⟨s, hs⟩ : ∃ s : Nat, s = 0 := ⟨_, rfl⟩
    have hraw : rawPivot ltInt d a b = (p, s) := by simp only [rawPivot, if_neg h8, ← hJ, hp, hs]
    rw [hraw]
    obtain ⟨Hc, hHc⟩ : ∃ Hc : Int, Hc = hintCode (hintOf s) := ⟨_, rfl⟩
    have hh0 : s = 0 → Hc = 1 := fun h => by rw [hHc, h]; rfl
    have hh12 : s = 12 → Hc = 2 := fun h => by rw [hHc, h]; rfl
    have hhx : s ≠ 0 → s ≠ 12 → Hc = 0 := fun h1 h2 => by rw [hHc]; unfold hintOf; rw [if_neg h1, if_neg h2]; rfl
    show Calls Try.prog 80 _ w fun e w' => e = .returned (.tuple #[.int .i64 (p : Int), .int .i64 (hintCode (hintOf s))]) ∧ ∃ n os, w' = grow (Sort.ahead w n) os
    rw [← hHc]
    clear hHc hraw
    subst hp
    clear MA MD hI hJ hK
    have hW0' : w.alloc (.cells #[.int .i64 0] 3) = Wc 0 s := by rw [hs]; exact hW0
    clear hW0
    go_enter Try.func80, Try.ntmps80
    go_wp2
    all_goals
      go_ret2
      refine ⟨?_, _, hG _ _⟩
      first
        | (have e0 : (s : Int) = 0 := of_beq_int (by assumption)
           rw [hh0 (by omega)]; rfl)
        | (have e1 : (s : Int) = 12 := of_beq_int (by assumption)
           rw [hh12 (by omega)]; rfl)
        | (have e0 : (s : Int) ≠ 0 := of_bne_int (by assumption)
           have e1 : (s : Int) ≠ 12 := of_bne_int (by assumption)
           rw [hhx (by omega) (by omega)]; rfl)
        | (rw [hh0 (by omega)]; rfl)
end Go.Proofs.Ytjggmimaolddkaa

namespace Go.Proofs.Ytjggmimaolddkaa
open Go.Sort Go.RowKit
set_option linter.unusedVariables false

structure Callees13U : Prop where
  ins : ∀ (blk off cap a b : Nat) (d : Array Int) (w : World), Holds (Value.int .u64) w blk off d → a ≤ b → b ≤ d.size → d.size < 4611686018427387904 →
    Calls Try.prog 77 #[.slice (some ⟨blk, off, none⟩) d.size cap, .int .i64 a, .int .i64 b] w fun e w' => e = .returned (.tuple #[]) ∧ ∃ n, w' = putRow (Value.int .u64) (Sort.ahead w n) blk off (insertionSort ltInt d a b)
  brk : ∀ (blk off cap a b : Nat) (d : Array Int) (w : World), Holds (Value.int .u64) w blk off d → blk < w.heap.size → a ≤ b → b ≤ d.size → d.size < 4611686018427387904 →
    Calls Try.prog 79 #[.slice (some ⟨blk, off, none⟩) d.size cap, .int .i64 a, .int .i64 b] w fun e w' => e = .returned (.tuple #[]) ∧ ∃ n os, w' = grow (putRow (Value.int .u64) (Sort.ahead w n) blk off (breakPatterns d a b)) os
  piv : ∀ (blk off cap a b : Nat) (d : Array Int) (w : World), Holds (Value.int .u64) w blk off d → blk < w.heap.size → a < b → b ≤ d.size → d.size < 4611686018427387904 →
    Calls Try.prog 80 #[.slice (some ⟨blk, off, none⟩) d.size cap, .int .i64 a, .int .i64 b] w fun e w' => e = .returned (.tuple #[.int .i64 (choosePivot ltInt d a b).1, .int .i64 (hintCode (choosePivot ltInt d a b).2)]) ∧ ∃ n os, w' = grow (Sort.ahead w n) os
  par : ∀ (blk off cap a b : Nat) (d : Array Int) (w : World), Holds (Value.int .u64) w blk off d → a < b → b ≤ d.size → d.size < 4611686018427387904 →
    Calls Try.prog 82 #[.slice (some ⟨blk, off, none⟩) d.size cap, .int .i64 a, .int .i64 b] w fun e w' => e = .returned (.bool (partialInsertionSort ltInt d a b).2) ∧ ∃ n, w' = putRow (Value.int .u64) (Sort.ahead w n) blk off (partialInsertionSort ltInt d a b).1
  peq : ∀ (blk off cap a b pivot : Nat) (d : Array Int) (w : World), Holds (Value.int .u64) w blk off d → a ≤ pivot → pivot < b → b ≤ d.size → d.size < 4611686018427387904 →
    Calls Try.prog 84 #[.slice (some ⟨blk, off, none⟩) d.size cap, .int .i64 a, .int .i64 b, .int .i64 pivot] w fun e w' => e = .returned (.int .i64 (partitionEqual ltInt d a b pivot).1) ∧ ∃ n, w' = putRow (Value.int .u64) (Sort.ahead w n) blk off (partitionEqual ltInt d a b pivot).2
  prt : ∀ (blk off cap a b pivot : Nat) (d : Array Int) (w : World), Holds (Value.int .u64) w blk off d → a ≤ pivot → pivot < b → b ≤ d.size → d.size < 4611686018427387904 →
    Calls Try.prog 85 #[.slice (some ⟨blk, off, none⟩) d.size cap, .int .i64 a, .int .i64 b, .int .i64 pivot] w fun e w' => e = .returned (.tuple #[.int .i64 (partition ltInt d a b pivot).1, .bool (partition ltInt d a b pivot).2.1]) ∧ ∃ n, w' = putRow (Value.int .u64) (Sort.ahead w n) blk off (partition ltInt d a b pivot).2.2
set_option maxHeartbeats 6400000 in
set_option maxRecDepth 1000000 in
theorem srt_pdqsort_u64 (C : Callees13U) (S : Plain13) : ∀ (N blk off cap a b limit : Nat) (d : Array Int) (w : World), b - a < N → Holds (Value.int .u64) w blk off d → blk < w.heap.size → a ≤ b → b ≤ d.size → d.size < 4611686018427387904 → limit < 4611686018427387904 → Below ltInt a b d →
    Calls Try.prog 62 #[.slice (some ⟨blk, off, none⟩) d.size cap, .int .i64 a, .int .i64 b, .int .i64 limit] w fun e w' => e = .returned (.tuple #[]) ∧ At (Value.int .u64) w blk off (pdq ltInt d a b limit true true) w' := by
  intro N
  induction N with
  | zero => intro _ _ _ _ _ _ _ _ h; exact absurd h (Nat.not_lt_zero _)
  | succ N ih =>
    intro blk off cap a b limit d w hN hH hblk hab hb hsz hlimit hBel0
    go_enter Try.func62, Try.ntmps62
    go_wp2
    go_loopg [1, 2, 3, 8, 9] (b - a) (fun k s1 s2 s3 s8 s9 wr => ∃ (a' b' lim : Nat) (wb wp : Bool) (dk : Array Int), s1 = .int .i64 a' ∧ s2 = .int .i64 b' ∧ s3 = .int .i64 lim ∧ s8 = .bool wb ∧ s9 = .bool wp ∧
      a' ≤ b' ∧ b' ≤ d.size ∧ b' - a' ≤ k ∧ k ≤ b - a ∧ lim ≤ limit ∧ dk.size = d.size ∧ Below ltInt a' b' dk ∧ At (Value.int .u64) w blk off dk wr ∧ pdq ltInt dk a' b' lim wb wp = pdq ltInt d a b limit true true)
    case atStart => exact ⟨a, b, limit, true, true, d, rfl, rfl, rfl, rfl, rfl, hab, hb, Nat.le_refl _, Nat.le_refl _, Nat.le_refl _, rfl, hBel0, At.refl hH, rfl⟩
    case round =>
      obtain ⟨a', b', lim, wb, wp, dk, rfl, rfl, rfl, rfl, rfl, hab', hb', hk, hkN, hlim, hds, hBel, hAt, heq⟩ := hrel
      obtain ⟨hHk, hblk'⟩ := hAt.holds hH hds hblk
      have A : Aside (pdq ltInt dk a' b' lim wb wp = pdq ltInt d a b limit true true) := heq
      clear heq
      by_cases h12 : b' - a' ≤ 12
      ·
        have h12z : (b' : Int) - (a' : Int) ≤ 12 := by omega
        have hc := C.ins blk off cap a' b' dk wr hHk hab' (by omega) (by omega)
        rw [hds] at hc
        go_wp2_with (go_at_call 77; refine hc.mono ?_; rintro e w1 ⟨rfl, hw1⟩)
        (try simp only [Exit.inBlock, Exit.then]); refine bodyPost_ret (results_none rfl _ _ _) rfl ?_
        refine ⟨rfl, ?_⟩
        rw [← A.out, pdq_small h12]
        exact hAt.step hblk (S.ins S.swo dk a' b' hab' (by omega)).1.1 hw1
      · have h12z : ¬ ((b' : Int) - (a' : Int) ≤ 12) := by omega
        by_cases hl0 : lim = 0
        ·
          subst hl0
          have hc := srt_heapSort_u64 blk off d.size cap dk hds a' b' wr hHk hab' (by omega) (by omega)
          go_wp2_with (go_at_call 78; refine hc.mono ?_; rintro e w1 ⟨rfl, hw1⟩)
          (try simp only [Exit.inBlock, Exit.then]); refine bodyPost_ret (results_none rfl _ _ _) rfl ?_
          refine ⟨rfl, ?_⟩
          rw [← A.out, pdq_heap h12 rfl]
          exact hAt.step hblk (heapSort_holds S.swo dk a' b' hab' (by omega)).1.1 hw1
        · have hl0z : ¬ ((lim : Int) = 0) := by omega
          obtain ⟨s1, B1, hc1, s2, B2, hpv, s3, B3⟩ := rd_facts (limit := lim) (wb := wb) (wp := wp) S.swo S.par reverseRange_holds (show a' < b' by omega) (show b' ≤ dk.size by omega) hBel
          go_upto_if 35 with fail
          go_cut [3] from 19 (fun s3 wc => s3 = .int .i64 (rd ltInt dk a' b' lim wb wp).lim ∧ At (Value.int .u64) w blk off (rd ltInt dk a' b' lim wb wp).d1 wc)
          case first =>
            cases wb
            · have hc := C.brk blk off cap a' b' dk wr hHk hblk' hab' (by omega) (by omega)
              rw [hds] at hc
              go_wp2_with (go_at_call 79; refine hc.mono ?_; rintro e w1 ⟨rfl, hw1⟩)
              go_meet
              case rel =>
                refine ⟨?_, hAt.stepG hblk s1 hw1⟩
                show Value.int .i64 ((lim : Int) - 1) = Value.int .i64 ((lim - 1 : Nat) : Int)
                congr 1
                omega
            · go_wp2_with fail
              go_meet
              case rel => exact ⟨rfl, hAt⟩
          case rest =>
            obtain ⟨rfl, hAt1⟩ := hcut
            obtain ⟨hH1, hblk1⟩ := hAt1.holds hH (s1.trans hds) hblk
            have hc17 : Calls Try.prog 80 #[.slice (some ⟨blk, off, none⟩) d.size cap, .int .i64 a', .int .i64 b'] wc fun e w' => e = .returned (.tuple #[.int .i64 (rd ltInt dk a' b' lim wb wp).c.1, .int .i64 (hintCode (rd ltInt dk a' b' lim wb wp).c.2)]) ∧ ∃ n os, w' = grow (Sort.ahead wc n) os := by
              have := C.piv blk off cap a' b' (rd ltInt dk a' b' lim wb wp).d1 wc hH1 hblk1 (by omega) (by omega) (by omega)
              rw [s1, hds] at this
              exact this
            go_upto_if 50 with (go_at_call 80; refine hc17.mono ?_; rintro e w2 ⟨rfl, hw2⟩)
            have hAt2 : At (Value.int .u64) w blk off (rd ltInt dk a' b' lim wb wp).d1 w2 := hAt1.same hH (s1.trans hds) hblk hw2
            obtain ⟨hH2, hblk2⟩ := hAt2.holds hH (s1.trans hds) hblk
            go_cut [11, 12] from 19 (fun s11 s12 wc => s11 = .int .i64 (rd ltInt dk a' b' lim wb wp).pivot ∧ s12 = .int .i64 (hintCode (rd ltInt dk a' b' lim wb wp).hint) ∧ At (Value.int .u64) w blk off (rd ltInt dk a' b' lim wb wp).d2 wc)
            case first =>
              by_cases hh : (rd ltInt dk a' b' lim wb wp).c.2 = .decreasing
              · have hcode : hintCode (rd ltInt dk a' b' lim wb wp).c.2 = 2 := by rw [hh]; rfl
                obtain ⟨e2, epv, eht⟩ := rd_dec hh
                have hc18 := srt_reverseRange_u64 blk off cap (rd ltInt dk a' b' lim wb wp).d1 a' b' w2 hH2 hab' (by omega) (by omega)
                rw [s1, hds] at hc18
                go_wp2_with (go_at_call 81; refine hc18.mono ?_; rintro e w3 ⟨rfl, hw3⟩)
                go_meet
                case rel =>
                  refine ⟨?_, by rw [eht]; rfl, by rw [e2]; exact hAt2.step hblk (by rw [← e2, s2, s1]) hw3⟩
                  rw [epv]
                  congr 1
                  omega
              · have hcode : ¬ (hintCode (rd ltInt dk a' b' lim wb wp).c.2 = 2) := fun h => hh (hintCode_two h)
                obtain ⟨e2, epv, eht⟩ := rd_not hh
                go_wp2_with fail
                go_meet
                case rel => exact ⟨by rw [epv], by rw [eht], by rw [e2]; exact hAt2⟩
            case rest =>
              obtain ⟨rfl, rfl, hAt3⟩ := hcut
              obtain ⟨hH3, hblk3⟩ := hAt3.holds hH (s2.trans hds) hblk
              go_upto_region 15 with fail
              go_cut [12, 68] from 19 (fun s12 s68 wx => s12 = .int .i64 (hintCode (rd ltInt dk a' b' lim wb wp).hint) ∧ s68 = .bool (wb && wp && decide ((rd ltInt dk a' b' lim wb wp).hint = .increasing)) ∧ wx = wc)
              case first =>
                cases wb <;> cases wp <;> cases hh3 : (rd ltInt dk a' b' lim _ _).hint <;>
                  (have hcode3 := congrArg hintCode hh3
                   simp only [hintCode] at hcode3
                   go_wp2_with fail
                   go_meet
                   exact ⟨by simp [hh3, hintCode], by simp [hh3, hintCode], rfl⟩)
              case rest =>
                obtain ⟨rfl, rfl, rfl⟩ := hcut
                go_upto_if 68 with fail
                go_cut [] from 19 (fun wx => (rd ltInt dk a' b' lim wb wp).pi.2 = false ∧ At (Value.int .u64) w blk off (rd ltInt dk a' b' lim wb wp).pi.1 wx)
                case first =>
                  cases h68 : (wb && wp && decide ((rd ltInt dk a' b' lim wb wp).hint = .increasing))
                  · have epi := rd_pi_no h68
                    go_wp2_with fail
                    go_meet
                    case rel => exact ⟨by rw [epi], by rw [epi]; exact hAt3⟩
                  · have epi := rd_pi_yes h68
                    have hc19 := C.par blk off cap a' b' (rd ltInt dk a' b' lim wb wp).d2 wc hH3 (by omega) (by omega) (by omega)
                    rw [s2, hds, ← epi] at hc19
                    go_wp2_with (go_at_call 82; refine hc19.mono ?_; rintro e w4 ⟨rfl, hw4⟩)
                    all_goals first
                      | (have hp2 : (rd ltInt dk a' b' lim wb wp).pi.2 = false := by rw [epi]; assumption
                         go_meet
                         exact ⟨hp2, hAt3.step hblk (by rw [s3, s2]) hw4⟩)
                      | (have hp2 : (rd ltInt dk a' b' lim wb wp).pi.2 = true := by rw [epi]; assumption
                         (try simp only [Exit.inBlock, Exit.then]); refine bodyPost_ret (results_none rfl _ _ _) rfl ?_
                         refine ⟨rfl, ?_⟩
                         rw [← A.out, pdq_done h12 hl0 hp2]
                         exact hAt3.step hblk (by rw [s3, s2]) hw4)
                case rest =>
                  obtain ⟨hp2, hAt5⟩ := hcut
                  obtain ⟨hH5, hblk5⟩ := hAt5.holds hH (s3.trans hds) hblk
                  have hcw : ∀ t, t < d.size → wc.cell? ⟨blk, off + t, none⟩ = some (.int .u64 (rd ltInt dk a' b' lim wb wp).pi.1[t]!) := fun t ht => (hH5 t (by omega)).1
                  have hfw : ∀ t, t < d.size → wc.frozen? ⟨blk, off + t, none⟩ = false := fun t ht => (hH5 t (by omega)).2
                  go_upto_region 17 with fail
                  go_cut [87] from 19 (fun s87 wx => s87 = .bool (decide (a' > 0) && !ltInt (rd ltInt dk a' b' lim wb wp).pi.1[a' - 1]! (rd ltInt dk a' b' lim wb wp).pi.1[(rd ltInt dk a' b' lim wb wp).pivot]!) ∧ At (Value.int .u64) w blk off (rd ltInt dk a' b' lim wb wp).pi.1 wx)
                  case first =>
                    rcases Nat.eq_zero_or_pos a' with ha0 | ha0
                    · have ha0z : decide ((a' : Int) > 0) = false := decide_eq_false (by omega)
                      go_big_quiet (first | (go_at_call 83; refine Calls.quiet_of_same (srt_cmp_Less_u64 _ _ _)))
                      go_wp2_with fail
                      go_meet
                      case rel => exact ⟨by simp [ha0], hAt5.ahead nq⟩
                    · have ha0z : (a' : Int) > 0 := by omega
                      go_big_quiet (first | (go_at_call 83; refine Calls.quiet_of_same (srt_cmp_Less_u64 _ _ _)))
                      go_wp2_with fail
                      go_meet
                      case rel => exact ⟨by simp [ha0], hAt5.ahead nq⟩
                  case rest =>
                    obtain ⟨rfl, hAt6⟩ := hcut
                    obtain ⟨hH6, hblk6⟩ := hAt6.holds hH (s3.trans hds) hblk
                    clear hcw hfw
                    cases h87 : (decide (a' > 0) && !ltInt (rd ltInt dk a' b' lim wb wp).pi.1[a' - 1]! (rd ltInt dk a' b' lim wb wp).pi.1[(rd ltInt dk a' b' lim wb wp).pivot]!)
                    ·
                      obtain ⟨mid, ap, d4, hx⟩ : ∃ mid ap d4, partition ltInt (rd ltInt dk a' b' lim wb wp).pi.1 a' b' (rd ltInt dk a' b' lim wb wp).pivot = (mid, ap, d4) := ⟨(partition ltInt (rd ltInt dk a' b' lim wb wp).pi.1 a' b' (rd ltInt dk a' b' lim wb wp).pivot).1, (partition ltInt (rd ltInt dk a' b' lim wb wp).pi.1 a' b' (rd ltInt dk a' b' lim wb wp).pivot).2.1, (partition ltInt (rd ltInt dk a' b' lim wb wp).pi.1 a' b' (rd ltInt dk a' b' lim wb wp).pivot).2.2, rfl⟩
                      obtain ⟨r1, r2, r3, r4, r5, r6, r7⟩ := round_part S.swo S.prt hpv.1 hpv.2 (show b' ≤ (rd ltInt dk a' b' lim wb wp).pi.1.size by omega) B3 hx
                      have hc22 := C.prt blk off cap a' b' (rd ltInt dk a' b' lim wb wp).pivot (rd ltInt dk a' b' lim wb wp).pi.1 wc hH6 hpv.1 hpv.2 (by omega) (by omega)
                      rw [s3, hds, hx] at hc22
                      have X : Aside (partition ltInt (rd ltInt dk a' b' lim wb wp).pi.1 a' b' (rd ltInt dk a' b' lim wb wp).pivot = (mid, ap, d4)) := hx
                      clear hx
                      go_upto_if 113 with (go_at_call 85; refine hc22.mono ?_; rintro e w7 ⟨rfl, hw7⟩)
                      have hx := X.out
                      have hAt7 : At (Value.int .u64) w blk off d4 w7 := hAt6.step hblk r3 hw7
                      obtain ⟨hH7, hblk7⟩ := hAt7.holds hH (r3.trans (s3.trans hds)) hblk
                      by_cases h4 : mid - a' < b' - mid
                      · have h4z : (mid : Int) - (a' : Int) < (b' : Int) - (mid : Int) := by omega
                        have hih := ih blk off cap a' mid (rd ltInt dk a' b' lim wb wp).lim d4 w7 (by omega) hH7 hblk7 (by omega) (by omega) (by omega) (Nat.lt_of_le_of_lt (Nat.le_trans rd_lim_le hlim) hlimit) r4
                        rw [r3, s3, hds] at hih
                        obtain ⟨pL, sL⟩ := S.pdq S.swo d4 a' mid (rd ltInt dk a' b' lim wb wp).lim true true (by omega) (by omega) r4
                        go_wp2_with (go_at_call 62; refine hih.mono ?_; rintro e w8 ⟨rfl, hw8⟩)
                        go_roundg (b' - (mid + 1))
                        case measure => omega
                        case rel =>
                          refine ⟨mid + 1, b', (rd ltInt dk a' b' lim wb wp).lim, decide (mid - a' ≥ (b' - a') / 8), ap, pdq ltInt d4 a' mid (rd ltInt dk a' b' lim wb wp).lim true true, by simp, rfl, rfl, ?_, rfl, by omega, by omega, Nat.le_refl _, by omega, Nat.le_trans rd_lim_le hlim, by rw [pL.1, r3, s3, hds], (r6 _ pL sL).1, hAt7.stepG hblk pL.1 hw8, ?_⟩
                          · exact congrArg Value.bool (eighth (by omega) (by omega))
                          · rw [← A.out, pdq_left h12 hl0 hp2 h87 (by rw [hx]; exact ⟨r1, r2⟩) (by rw [hx]; exact h4), hx]
                      · have h4z : ¬ ((mid : Int) - (a' : Int) < (b' : Int) - (mid : Int)) := by omega
                        have hih := ih blk off cap (mid + 1) b' (rd ltInt dk a' b' lim wb wp).lim d4 w7 (by omega) hH7 hblk7 (by omega) (by omega) (by omega) (Nat.lt_of_le_of_lt (Nat.le_trans rd_lim_le hlim) hlimit) r5
                        rw [r3, s3, hds] at hih
                        obtain ⟨pL, sL⟩ := S.pdq S.swo d4 (mid + 1) b' (rd ltInt dk a' b' lim wb wp).lim true true (by omega) (by omega) r5
                        go_wp2_with (go_at_call 62; refine hih.mono ?_; rintro e w8 ⟨rfl, hw8⟩)
                        go_roundg (mid - a')
                        case measure => omega
                        case rel =>
                          refine ⟨a', mid, (rd ltInt dk a' b' lim wb wp).lim, decide (b' - mid ≥ (b' - a') / 8), ap, pdq ltInt d4 (mid + 1) b' (rd ltInt dk a' b' lim wb wp).lim true true, rfl, rfl, rfl, ?_, rfl, by omega, by omega, Nat.le_refl _, by omega, Nat.le_trans rd_lim_le hlim, by rw [pL.1, r3, s3, hds], (r7 _ pL sL).1, hAt7.stepG hblk pL.1 hw8, ?_⟩
                          · exact congrArg Value.bool (eighth (by omega) (by omega))
                          · rw [← A.out, pdq_right h12 hl0 hp2 h87 (by rw [hx]; exact ⟨r1, r2⟩) (by rw [hx]; exact h4), hx]
                    ·
                      have h87' := h87
                      simp only [Bool.and_eq_true, decide_eq_true_eq, Bool.not_eq_true'] at h87'
                      obtain ⟨mid, d4, hx⟩ : ∃ mid d4, partitionEqual ltInt (rd ltInt dk a' b' lim wb wp).pi.1 a' b' (rd ltInt dk a' b' lim wb wp).pivot = (mid, d4) := ⟨(partitionEqual ltInt (rd ltInt dk a' b' lim wb wp).pi.1 a' b' (rd ltInt dk a' b' lim wb wp).pivot).1, (partitionEqual ltInt (rd ltInt dk a' b' lim wb wp).pi.1 a' b' (rd ltInt dk a' b' lim wb wp).pivot).2, rfl⟩
                      obtain ⟨r1, r2, r3, r4, _⟩ := round_eq S.swo S.peq h87'.1 hpv.1 hpv.2 (show b' ≤ (rd ltInt dk a' b' lim wb wp).pi.1.size by omega) B3 h87'.2 hx
                      have hc21 := C.peq blk off cap a' b' (rd ltInt dk a' b' lim wb wp).pivot (rd ltInt dk a' b' lim wb wp).pi.1 wc hH6 hpv.1 hpv.2 (by omega) (by omega)
                      rw [s3, hds, hx] at hc21
                      have X : Aside (partitionEqual ltInt (rd ltInt dk a' b' lim wb wp).pi.1 a' b' (rd ltInt dk a' b' lim wb wp).pivot = (mid, d4)) := hx
                      clear hx
                      go_wp2_with (go_at_call 84; refine hc21.mono ?_; rintro e w7 ⟨rfl, hw7⟩)
                      go_roundg (b' - mid)
                      case measure => omega
                      case rel =>
                        have hx := X.out
                        exact ⟨mid, b', (rd ltInt dk a' b' lim wb wp).lim, wb, wp, d4, rfl, rfl, rfl, rfl, rfl, r2, hb', Nat.le_refl _, by omega, Nat.le_trans rd_lim_le hlim, by rw [r3, s3, hds], r4, hAt6.step hblk r3 hw7, by rw [← A.out, pdq_eq h12 hl0 hp2 h87 (by rw [hx]; exact ⟨r1, r2⟩), hx]⟩
end Go.Proofs.Ytjggmimaolddkaa

namespace Go.Proofs.Ytjggmimaolddkaa
open Go.Sort Go.RowKit
set_option linter.unusedVariables false

def pdqWalk_u64 : Prop := ∀ (blk off cap a b limit : Nat) (d : Array Int) (w : World), Holds (Value.int .u64) w blk off d → blk < w.heap.size → a ≤ b → b ≤ d.size → d.size < 4611686018427387904 → limit < 4611686018427387904 → Below ltInt a b d →
  Calls Try.prog 62 #[.slice (some ⟨blk, off, none⟩) d.size cap, .int .i64 a, .int .i64 b, .int .i64 limit] w fun e w' =>
    e = .returned (.tuple #[]) ∧ ∃ n os, w' = grow (putRow (Value.int .u64) (Sort.ahead w n) blk off (Sort.pdq ltInt d a b limit true true)) os
set_option maxRecDepth 100000 in
theorem srt_Sort_u64 (hpdq : pdqWalk_u64) (blk off cap : Nat) (d : Array Int) (w : World) (hH : Holds (Value.int .u64) w blk off d) (hblk : blk < w.heap.size) (hsz : d.size < 4611686018427387904) :
    Calls Try.prog 48 #[.slice (some ⟨blk, off, none⟩) d.size cap] w fun e w' => e = .returned (.tuple #[]) ∧ ∃ n os, w' = grow (putRow (Value.int .u64) (Sort.ahead w n) blk off (Sort.sort ltInt d)) os := by
  have HH : Hid (Holds (Value.int .u64) w blk off d) := hH
  clear hH
  have hLen : ∀ w, Calls Try.prog 63 #[.int .u64 (d.size : Int)] w fun e w' => e = .returned (.int .i64 (bitsLen d.size : Nat)) ∧ w' = w := fun w => by
    have h := Try.bits_Len (d.size : Int) w (by omega) (by omega)
    rwa [Int.toNat_natCast, bitLen_eq _ (by omega)] at h
  have hk : bitsLen d.size ≤ 62 := (bitsLen_le_iff d.size 62).2 (by omega)
  go_enter Try.func48, Try.ntmps48
  go_wp2_with (first
    | (go_at_call 63; refine (hLen _).mono ?_; rintro e w' ⟨rfl, rfl⟩)
    | (go_at_call 62; refine (hpdq blk off cap 0 d.size (bitsLen d.size) d _ (by exact HH.out) (by exact hblk) (Nat.zero_le _) (Nat.le_refl _) hsz (by omega) (Or.inl rfl)).mono ?_; rintro e w' ⟨rfl, n, os, rfl⟩))
  go_end0
  exact ⟨rfl, n, os, rfl⟩
theorem callees13U : Callees13U where
  ins := srt_insertionSort_u64
  brk := srt_breakPatterns_u64
  piv := srt_choosePivot_u64
  par := srt_partialInsertionSort_u64
  peq := srt_partitionEqualOrdered_u64
  prt := srt_partitionOrdered_u64
theorem plain13U : Plain13 where
  swo := swo_ltInt
  ins := insertionSort_holds
  par := partialInsertionSort_holds
  prt := partition_holds _
  peq := partitionEqual_holds _
  pdq := pdq_sorts _
theorem pdqWalkU : pdqWalk_u64 := fun blk off cap a b limit d w hH hb hab hbd hsz hl hB =>
  srt_pdqsort_u64 callees13U plain13U (b - a + 1) blk off cap a b limit d w (by omega) hH hb hab hbd hsz hl hB
/-- slices.Sort at []uint64, whatever its length: the cells then hold the sorted list; else nothing turns but draws and new blocks. -/
theorem srt_Sort (blk off cap : Nat) (zs : List Int) (w : World) (hH : Holds (Value.int .u64) w blk off zs.toArray) (hblk : blk < w.heap.size) (hsz : zs.length < 4611686018427387904) :
    Calls Try.prog 48 #[.slice (some ⟨blk, off, none⟩) zs.length cap] w fun e w' =>
      e = .returned (.tuple #[]) ∧ ∃ n os, w' = grow (putRow (Value.int .u64) (Sort.ahead w n) blk off (zs.mergeSort fun x y => decide (x ≤ y)).toArray) os := by
  have h := srt_Sort_u64 pdqWalkU blk off cap zs.toArray w hH hblk (by simpa using hsz)
  rw [← sortInt zs]
  simpa using h

end Go.Proofs.Ytjggmimaolddkaa

namespace Go.Proofs.Ytjggmimaolddkaa
open Go.RowKit Go.Maps
set_option linter.unusedVariables false

theorem nodup_len : ∀ (n : Nat) (l : List Int), l.Nodup → (∀ x ∈ l, 0 ≤ x ∧ x < (n : Int)) → l.length ≤ n
  | 0, [], _, _ => Nat.le_refl _
  | 0, x :: l, _, h => by have := h x (by simp); omega
  | n + 1, l, hn, h => by
    have h1 := nodup_len n (l.erase (n : Int)) (hn.erase _) (fun x hx => by
      have hx2 := (hn.mem_erase_iff).1 hx
      have := h x hx2.2
      omega)
    have h2 := List.length_erase (a := (n : Int)) (l := l)
    split at h2 <;> omega
theorem row_holds {w : World} {g : Nat} {cur : Array Value} {e : TypeId} {ss : List Int} (hb : w.heap[g]? = some (.cells cur e (0, 0))) (ht : cur.toList.take ss.length = u64s ss) : Sort.Holds (Value.int .u64) w g 0 ss.toArray := fun j hj => by
  have hj' : j < ss.length := by simpa using hj
  have h1 : (cur.toList.take ss.length)[j]? = (u64s ss)[j]? := by rw [ht]
  rw [List.getElem?_take_of_lt hj'] at h1
  refine ⟨?_, by simp [World.frozen?, hb]⟩
  simp only [World.cell?, hb, Nat.zero_add, Option.isSome_none, Bool.false_eq_true, if_false]
  rw [← Array.getElem?_toList, h1]
  simp [u64s, hj']
theorem row_turned {w : World} {base g cap n : Nat} {e : TypeId} {os : Array Obj} {cur : Array Value} {ss ts : List Int} (hl : ts.length = ss.length) (hbase : base ≤ g) (hb : w.heap[g]? = some (.cells cur e (0, 0))) (h1 : ss.length ≤ cap) (h2 : cap ≤ maxLen) (h3 : cur.size = cap * 1) :
    (Sort.grow (Sort.putRow (Value.int .u64) (Sort.ahead w n) g 0 ts.toArray) os).ownsRow base e 1 (.slice (some ⟨g, 0, none⟩) ss.length cap) ss.length (u64s ts) := by
  have hg : g < w.heap.size := (Array.getElem?_eq_some_iff.1 hb).1
  refine ⟨by simp [u64s, hl], .inr ⟨g, cap, Sort.putCells (Value.int .u64) 0 ts.toArray cur, rfl, hbase, ?_, h1, h2, by simp [Sort.putCells, h3], ?_⟩⟩
  · rw [Sort.heap_grow_old _ _ (by simpa using hg)]
    simp [Sort.putRow, Sort.mapBlock, Sort.ahead, Array.getElem?_modify, hb, Sort.onCells]
  · rw [Nat.mul_one, ← hl]
    apply List.ext_getElem?
    intro j
    by_cases hj : j < ts.length
    · rw [List.getElem?_take_of_lt hj, Array.getElem?_toList]
      simp [Sort.putCells, u64s, hj, show j < cur.size by omega]
    · rw [List.getElem?_take_eq_none (by omega), List.getElem?_eq_none (by simp [u64s]; omega)]
theorem grown_turned {w : World} {g n : Nat} {os : Array Obj} (d : Array Int) : w.grownBy (Sort.grow (Sort.putRow (Value.int .u64) (Sort.ahead w n) g 0 d) os) (some g) := by
  refine ⟨rfl, rfl, rfl, by simp, fun k hk hne => ?_⟩
  rw [Sort.heap_grow_old _ _ (by simpa using hk)]
  have : g ≠ k := fun e => hne (by rw [e])
  simp [Sort.putRow, Sort.mapBlock, Sort.ahead, Array.getElem?_modify, this]
def sortZ (l : List Int) : List Int := l.mergeSort fun x y => decide (x ≤ y)
theorem sortZ_perm (l : List Int) : (sortZ l).Perm l := List.mergeSort_perm l _
theorem sortZ_len (l : List Int) : (sortZ l).length = l.length := by simp [sortZ]
theorem sortZ_le (l : List Int) : (sortZ l).Pairwise fun x y => x ≤ y := by
  have h := List.pairwise_mergeSort (le := fun x y : Int => decide (x ≤ y)) (fun a b c h1 h2 => by simp at *; omega) (fun a b => by simp; omega) l
  exact h.imp fun hab => by simpa using hab
theorem sortZ_lt {l : List Int} (h : l.Nodup) : (sortZ l).Pairwise fun x y => x < y := by
  have h1 := sortZ_le l
  have h2 : (sortZ l).Nodup := (sortZ_perm l).nodup_iff.2 h
  exact (h1.and h2).imp fun ⟨a, b⟩ => by
    have : ¬ _ = _ := b
    omega
theorem sortZ_short {l : List Int} (h : l.length ≤ 1) : sortZ l = l := by
  match l, h with
  | [], _ => exact List.Perm.eq_nil (sortZ_perm [])
  | [x], _ => exact List.perm_singleton.1 (sortZ_perm [x])
theorem sort_u64s (base : Nat) (v : Value) (ss : List Int) (w : World) (h : w.ownsRow base 31 1 v ss.length (u64s ss)) (hl : ss.length ≤ 1000000000000) :
    Calls Try.prog 48 #[v] w fun e w' => (∃ u, e = .returned u) ∧ w'.ownsRow base 31 1 v ss.length (u64s (sortZ ss)) ∧ w.grownBy w' v.ownBlock := by
  by_cases h1 : ss.length ≤ 1
  · obtain ⟨A, c, rfl, _⟩ := Rd.of_own h
    refine (sort_one A ss.length c _ h1).mono ?_
    rintro e w' ⟨he, rfl⟩
    rw [sortZ_short h1]
    exact ⟨he, h, World.grownBy.refl _ _⟩
  · rcases h.2 with ⟨_, h0⟩ | ⟨g, cap, cur, rfl, hbase, hb, g1, g2, g3, g4⟩
    · omega
    rw [Nat.mul_one] at g4
    refine (srt_Sort g 0 cap ss w (row_holds hb g4) (Array.getElem?_eq_some_iff.1 hb).1 (by omega)).mono ?_
    rintro e w' ⟨rfl, n, os, rfl⟩
    exact ⟨⟨_, rfl⟩, row_turned (sortZ_len ss) hbase hb g1 g2 g3, grown_turned _⟩
theorem keysOf_perm {f : Int → Option (List Int)} {ss ts : List Int} (h : KeysOf f ss) (hp : ts.Perm ss) : KeysOf f ts := ⟨hp.nodup_iff.2 h.1, fun x => (hp.mem_iff).trans (h.2 x)⟩
set_option maxRecDepth 100000 in
theorem sorted_any (Bm b m : Nat) (f : Int → Option (List Int)) (w : World) (hBm : Bm < w.heap.size)
    (hm : w.cell? ⟨Bm, 0, none⟩ = some (.map (some b))) (hown : OwnB w Try.prog 31 b m f) (hb : m ≤ 1000000000000) (hlen : ∀ ss, KeysOf f ss → ss.length ≤ 1000000) :
    Calls Try.prog 36 #[.func (.func 49) #[] #[.pointer (some ⟨Bm, 0, none⟩)]] w (HandlesPost f w) := by
  go_enter Try.func36, Try.ntmps36
  go_wp2_with fail
  refine (collect_any Bm b m f _ hBm hm hown hb).mono ?_
  rintro e w2 ⟨v, ss, rfl, hS, hrow, hb2⟩
  have HS := Lib.hid hS
  have h1 := hlen ss hS
  have HRow := Lib.hid hrow
  have HB2 := Lib.hid hb2
  clear hS hrow hb2
  go_wp2_with fail
  refine (sort_u64s w.heap.size v ss _ HRow.out (by omega)).mono ?_
  rintro e w3 ⟨⟨v3, rfl⟩, hrow3, hg3⟩
  have HRow3 := Lib.hid hrow3
  have HB3 := Lib.hid (below_own HB2.out HRow.out hg3 (Nat.le_refl _) HB2.out.size)
  clear hrow3 hg3
  go_wp2
  go_ret
  exact ⟨_, sortZ ss, rfl, keysOf_perm HS.out (sortZ_perm ss), sortZ_lt HS.out.1, by rw [sortZ_len]; exact HRow3.out, HB3.out⟩
set_option maxRecDepth 100000 in
theorem handles_many (B n sb mb : Nat) (s : MSt) (w : World) (h : StIn w B n sb mb s) (hn : n ≤ 1000000000000) (hlen : ∀ ss, KeysOf s.blocks ss → ss.length ≤ 1000000) :
    Calls Try.prog 21 #[.pointer (some ⟨sb, 0, none⟩)] w (HandlesPost s.blocks w) := by
  have kM : w.cell? ⟨sb, 16, none⟩ = some (.map (some mb)) := h.st.map h.roots
  have HM := Lib.hid h.map
  clear h
  go_enter Try.func21, Try.ntmps21
  go_wp2_with fail
  refine (keys_any mb _).mono ?_
  rintro e w1 ⟨rfl, hw1⟩
  have hb1 : Below w.heap.size w w1 := by rw [hw1]; exact (Below.refl _ _).alloc (Nat.le_refl _) _
  have hc1 : w1.cell? ⟨w.heap.size, 0, none⟩ = some (.map (some mb)) := by rw [hw1]; exact World.cell?_alloc_at _ _ _ _ rfl
  have hz1 : w.heap.size < w1.heap.size := by rw [hw1]; simp
  have HM1 := Lib.hid (HM.out.below hb1)
  have HB1 := Lib.hid hb1
  have HC1 := Lib.hid hc1
  clear hw1 hb1 hc1
  go_wp2_with fail
  refine (sorted_any w.heap.size mb n s.blocks _ hz1 HC1.out HM1.out hn hlen).mono ?_
  rintro e w2 ⟨v, ss, rfl, hS, hsr, hrow, hb2⟩
  have HS := Lib.hid hS
  have HSr := Lib.hid hsr
  have HRow := Lib.hid hrow
  have HB2 := Lib.hid (HB1.out.trans (hb2.mono HB1.out.size))
  clear hS hrow hb2 hsr
  go_wp2
  go_ret
  exact ⟨_, ss, rfl, HS.out, HSr.out, own_base HRow.out (Nat.le_of_lt hz1), HB2.out⟩
end Go.Proofs.Ytjggmimaolddkaa

namespace Go.Proofs.Ytjggmimaolddkaa
open Go.RowKit
set_option linter.unusedVariables false

def sumF (d : Nat → Nat) : Nat → Nat
  | 0 => 0
  | n + 1 => sumF d n + d n
theorem sumF_one {d d' : Nat → Nat} {i c : Nat} (h : ∀ k, k ≠ i → d' k ≤ d k) (hi : d' i ≤ d i + c) : ∀ n, sumF d' n ≤ sumF d n + c
  | 0 => by simp [sumF]
  | n + 1 => by
    rw [sumF, sumF]
    by_cases e : n = i
    · subst e
      have : sumF d' n ≤ sumF d n := by
        have hl : ∀ m, m ≤ n → sumF d' m ≤ sumF d m := by
          intro m
          induction m with
          | zero => intro _; exact Nat.le_refl _
          | succ m ih =>
            intro hm
            have h1 := ih (by omega)
            have h2 := h m (by omega)
            rw [sumF, sumF]; omega
        exact hl n (Nat.le_refl _)
      omega
    · have h1 := sumF_one h hi n
      have h2 := h n e
      omega
theorem sumF_zero {d : Nat → Nat} (h : ∀ k, d k = 0) : ∀ n, sumF d n = 0
  | 0 => rfl
  | n + 1 => by rw [sumF, sumF_zero h n, h n]
theorem sumF_le {d : Nat → Nat} {c : Nat} (h : ∀ k, d k ≤ c) : ∀ n, sumF d n ≤ c * n
  | 0 => by simp [sumF]
  | n + 1 => by
    have h1 := sumF_le h n
    have h2 := h n
    rw [sumF, Nat.mul_add]; omega
/-- A list of different numbers below n: what they come to is no more than what all come to. -/
theorem sum_sub (d : Nat → Nat) : ∀ (n : Nat) (l : List Nat), l.Nodup → (∀ x ∈ l, x < n) → (l.map d).sum ≤ sumF d n
  | 0, [], _, _ => Nat.le_refl _
  | 0, x :: l, _, h => by have := h x (by simp); omega
  | n + 1, l, hn, h => by
    by_cases hm : n ∈ l
    · have h1 := sum_sub d n (l.erase n) (hn.erase _) (fun x hx => by
        have hx2 := (hn.mem_erase_iff).1 hx
        have := h x hx2.2
        omega)
      have h2 := ((List.perm_cons_erase hm).map d).sum_nat
      rw [List.map_cons, List.sum_cons] at h2
      rw [sumF]; omega
    · have h1 := sum_sub d n l hn (fun x hx => by
        have := h x hx
        have : x ≠ n := fun e => hm (e ▸ hx)
        omega)
      rw [sumF]; omega
def ne1 (x y : Int) : Nat := if x = y then 0 else 1
/-- How many of so many numbers differ: the new one first. -/
def difN (b a : List Int) (n : Nat) : Nat := sumF (fun k => ne1 (b.getD k 0) (a.getD k 0)) n
theorem ne1_self (x : Int) : ne1 x x = 0 := by simp [ne1]
theorem ne1_le (x y : Int) : ne1 x y ≤ 1 := by unfold ne1; split <;> omega
theorem difN_self (a : List Int) (n : Nat) : difN a a n = 0 := sumF_zero (fun k => ne1_self _) n
theorem difN_set (b a : List Int) (i : Nat) (v : Int) (n : Nat) : difN (b.set i v) a n ≤ difN b a n + 1 := by
  refine sumF_one (i := i) (fun k hk => ?_) ?_ n
  · rw [List.getD_eq_getElem?_getD, List.getD_eq_getElem?_getD, List.getElem?_set_ne (by omega)]; exact Nat.le_refl _
  · have := ne1_le ((b.set i v).getD i 0) (a.getD i 0); omega
/-- How many words of a block differ, if it was there. -/
def difO : Option (List Int) → Option (List Int) → Nat
  | some b, some a => difN b a 8
  | _, _ => 0
theorem difO_le (x y : Option (List Int)) : difO x y ≤ 8 := by
  match x, y with
  | some b, some a => have := sumF_le (d := fun k => ne1 (b.getD k 0) (a.getD k 0)) (fun k => ne1_le _ _) 8; show difN b a 8 ≤ 8; unfold difN; omega
  | some b, none => simp [difO]
  | none, _ => simp [difO]
theorem difO_self (x : Option (List Int)) : difO x x = 0 := by
  match x with
  | some b => exact difN_self b 8
  | none => rfl
def difB (f g : Int → Option (List Int)) : Nat := sumF (fun h => difO (f (h : Int)) (g (h : Int))) 65
theorem difB_self (f : Int → Option (List Int)) : difB f f = 0 := sumF_zero (fun k => difO_self _) 65
theorem difB_upd (f g : Int → Option (List Int)) (x : Int) (o : Option (List Int)) (c : Nat) (hc : ∀ h : Nat, (h : Int) = x → difO o (g x) ≤ difO (f x) (g x) + c) : difB (upd f x o) g ≤ difB f g + c := by
  by_cases hx : ∃ h : Nat, (h : Int) = x
  · obtain ⟨h, rfl⟩ := hx
    refine sumF_one (i := h) (fun k hk => ?_) ?_ 65
    · have : upd f (h : Int) o (k : Int) = f (k : Int) := by unfold upd; rw [if_neg (by omega)]
      rw [this]; exact Nat.le_refl _
    · have : upd f (h : Int) o (h : Int) = o := by unfold upd; rw [if_pos rfl]
      rw [this]; exact hc h rfl
  · have : ∀ k : Nat, upd f x o (k : Int) = f (k : Int) := fun k => by unfold upd; rw [if_neg (fun e => hx ⟨k, e⟩)]
    unfold difB
    simp only [this]
    omega
def difS (s s0 : MSt) : Nat := difN s.roots s0.roots 16 + difB s.blocks s0.blocks
theorem difS_self (s : MSt) : difS s s = 0 := by unfold difS; rw [difN_self, difB_self]
/-- The handles of a state are from 1 to 64. -/
def Few64 (s : MSt) : Prop := ∀ h, (s.blocks h).isSome = true → 1 ≤ h ∧ h ≤ 64
/-- How far a run has come from a state. -/
structure Near (s0 : MSt) (P : List Int) (r : MRun) : Prop where
  dif : (difS r.st s0 : Int) ≤ r.writes
  nine : 9 * (r.news.length : Int) ≤ r.writes
  pick : r.news ++ r.pick = P
  few : Few64 r.st
  pos : ∀ x ∈ P, U64 x
theorem Near.of {s0 : MSt} {P : List Int} {r r' : MRun} (h : Near s0 P r) (h1 : r'.st = r.st) (h2 : r'.writes = r.writes) (h3 : r'.news = r.news) (h4 : r'.pick = r.pick) : Near s0 P r' :=
  ⟨by rw [h1, h2]; exact h.dif, by rw [h2, h3]; exact h.nine, by rw [h3, h4]; exact h.pick, by rw [h1]; exact h.few, h.pos⟩
theorem writes_put {op : Int} (h : op = 10 ∨ op = 13 ∨ op = 14) : writesOf op = 1 := by rcases h with rfl | rfl | rfl <;> decide
theorem root_near {s0 : MSt} {P : List Int} {r : MRun} {maxw : Int} {i : Ins} (h : Near s0 P r) (ho : i.op = 9 ∨ i.op = 10) : Near s0 P (rootP maxw i r).2 := by
  unfold rootP
  split
  · exact h
  split
  · exact h.of rfl rfl rfl rfl
  split
  · exact h
  · rename_i h9 _ r2 hp
    obtain ⟨rfl, _⟩ := payP_some hp
    have hw : writesOf i.op = 1 := writes_put (by omega)
    have hd := difN_set r.st.roots s0.roots (r.reg i.b).toNat (r.reg i.a) 16
    have h0 := h.dif
    unfold difS at h0
    refine ⟨?_, ?_, h.pick, h.few, h.pos⟩
    · show ((difN (r.st.roots.set _ _) s0.roots 16 + difB r.st.blocks s0.blocks : Nat) : Int) ≤ r.writes + writesOf i.op
      omega
    · show 9 * (r.news.length : Int) ≤ r.writes + writesOf i.op
      have := h.nine; omega
theorem few_upd {f : Int → Option (List Int)} {x : Int} {o : Option (List Int)} (h : ∀ y, (f y).isSome = true → 1 ≤ y ∧ y ≤ 64) (hx : o.isSome = true → 1 ≤ x ∧ x ≤ 64) : ∀ y, (upd f x o y).isSome = true → 1 ≤ y ∧ y ≤ 64 := fun y hy => by
  unfold upd at hy
  split at hy
  · rename_i e; rw [e]; exact hx hy
  · exact h y hy
theorem word_near {s0 : MSt} {P : List Int} {r : MRun} {maxw : Int} {i : Ins} (h : Near s0 P r) (ho : i.op = 11 ∨ i.op = 12 ∨ i.op = 13 ∨ i.op = 14) : Near s0 P (wordP maxw i r).2 := by
  unfold wordP
  split
  · exact h
  · rename_i ws hf
    split
    · exact h
    split
    · exact h.of rfl rfl rfl rfl
    split
    · exact h
    · rename_i h8 h11 r2 hp
      obtain ⟨rfl, _⟩ := payP_some hp
      have hw : writesOf i.op = 1 := writes_put (by omega)
      have hd := difB_upd r.st.blocks s0.blocks (r.reg i.b) (some (ws.set (wordAt i r).toNat (r.reg i.a))) 1 (fun k _ => by
        rw [hf]
        cases s0.blocks (r.reg i.b) with
        | none => simp [difO]
        | some a => exact difN_set ws a _ _ 8)
      have h0 := h.dif
      unfold difS at h0
      refine ⟨?_, ?_, h.pick, ?_, h.pos⟩
      · show ((difN r.st.roots s0.roots 16 + difB (upd _ _ _) s0.blocks : Nat) : Int) ≤ r.writes + writesOf i.op
        omega
      · show 9 * (r.news.length : Int) ≤ r.writes + writesOf i.op
        have := h.nine; omega
      · exact few_upd h.few (fun _ => h.few _ (by rw [hf]; rfl))
theorem fresh_near {s0 : MSt} {P : List Int} {r : MRun} {maxw : Int} {i : Ins} (h : Near s0 P r) (ho : i.op = 15) : Near s0 P (freshP maxw i r).2 := by
  have hw : writesOf i.op = 9 := by rw [ho]; decide
  unfold freshP
  split
  · exact h
  · rename_i r2 hp
    obtain ⟨rfl, _⟩ := payP_some hp
    have h0 := h.dif
    have h9 := h.nine
    have hpay : Near s0 P { r with writes := r.writes + writesOf i.op } := ⟨by show ((difS r.st s0 : Nat) : Int) ≤ r.writes + writesOf i.op; omega, by show 9 * (r.news.length : Int) ≤ r.writes + writesOf i.op; omega, h.pick, h.few, h.pos⟩
    split
    · exact hpay
    · rename_i x rest hpk
      split
      · exact hpay
      · rename_i hno
        have hxU : U64 x := h.pos x (by rw [← h.pick, hpk]; simp)
        have hx : 1 ≤ x ∧ x ≤ 64 := by unfold U64 at hxU; omega
        have hd := difB_upd r.st.blocks s0.blocks x (some zero8) 8 (fun k _ => by have := difO_le (some zero8) (s0.blocks x); omega)
        unfold difS at h0
        refine ⟨?_, ?_, ?_, ?_, h.pos⟩
        · show ((difN r.st.roots s0.roots 16 + difB (upd _ _ _) s0.blocks : Nat) : Int) ≤ r.writes + writesOf i.op
          omega
        · show 9 * ((r.news ++ [x]).length : Int) ≤ r.writes + writesOf i.op
          rw [List.length_append]
          simp only [List.length_cons, List.length_nil]
          omega
        · show (r.news ++ [x]) ++ rest = P
          rw [List.append_assoc, List.singleton_append, ← hpk]; exact h.pick
        · exact few_upd h.few (fun _ => hx)
theorem free_near {s0 : MSt} {P : List Int} {r : MRun} {maxw : Int} {i : Ins} (h : Near s0 P r) : Near s0 P (freeP maxw i r).2 := by
  have hw := writesOf_nn i.op
  unfold freeP
  split
  · exact h
  · split
    · exact h
    · rename_i r2 hp
      obtain ⟨rfl, _⟩ := payP_some hp
      have h0 := h.dif
      have h9 := h.nine
      have hd := difB_upd r.st.blocks s0.blocks (r.reg i.a) none 0 (fun k _ => by simp [difO])
      unfold difS at h0
      refine ⟨?_, ?_, h.pick, ?_, h.pos⟩
      · show ((difN r.st.roots s0.roots 16 + difB (upd _ _ _) s0.blocks : Nat) : Int) ≤ r.writes + writesOf i.op
        omega
      · show 9 * (r.news.length : Int) ≤ r.writes + writesOf i.op
        omega
      · exact few_upd h.few (fun h => by simp at h)
theorem do_near {s0 : MSt} {P : List Int} {r : MRun} {args : List Int} {maxw : Int} {i : Ins} (h : Near s0 P r) : Near s0 P (doP args maxw i r).2 := by
  unfold doP
  split
  · exact h.of rfl rfl rfl rfl
  split
  · show Near s0 P (if _ then _ else _)
    split
    · exact h.of rfl rfl rfl rfl
    · exact h
  split
  · show Near s0 P (if _ then _ else _)
    split
    · exact h
    · exact h.of rfl rfl rfl rfl
  split
  · exact h.of rfl rfl rfl rfl
  split
  · exact h.of rfl rfl rfl rfl
  split
  · rename_i ho; exact root_near h ho
  split
  · rename_i ho; exact word_near h ho
  split
  · rename_i ho; exact fresh_near h ho
  split
  · exact free_near h
  · exact h.of rfl rfl rfl rfl
theorem at_near {s0 : MSt} {P : List Int} {r : MRun} {l : List Ins} {args : List Int} {maxw : Int} (h : Near s0 P r) : Near s0 P (atP l args maxw r).2 :=
  do_near (h.of (r' := { r with steps := r.steps + 1, pc := r.pc + 1 }) rfl rfl rfl rfl)
theorem go_near {s0 : MSt} {P : List Int} {l : List Ins} {args : List Int} {maxw : Int} : ∀ (n : Nat) (r : MRun), Near s0 P r → Near s0 P (goP l args maxw n r)
  | 0, r, h => h.of rfl rfl rfl rfl
  | n + 1, r, h => by
    rcases at_cases l args maxw r with h1 | ⟨h1, h2⟩ | ⟨h1, h2⟩
    · rw [goP_err h1]; exact (at_near h).of rfl rfl rfl rfl
    · rw [goP_end h1 h2]; exact at_near h
    · rw [goP_on h1 h2]; exact go_near n _ (at_near h)
theorem run_near {s : MSt} {l : List Ins} {args : List Int} {fuel maxw : Int} {pick : List Int} (hs : Few64 s) (hp : ∀ x ∈ pick, U64 x) : Near s pick (runP s l args fuel maxw pick) := by
  have h0 : Near s pick (startP s pick) := ⟨by show ((difS s s : Nat) : Int) ≤ 0; rw [difS_self]; decide, by show 9 * ((List.length []) : Int) ≤ 0; decide, rfl, hs, hp⟩
  unfold runP
  split
  · exact go_near _ _ h0
  · exact h0.of rfl rfl rfl rfl
theorem after_few {s : MSt} {r : MRun} {P : List Int} (hs : Few64 s) (h : Near s P r) : Few64 (afterP s r) := by
  unfold afterP
  split
  · exact h.few
  · exact hs
theorem after_dif {s : MSt} {r : MRun} {P : List Int} (h : Near s P r) : (difS (afterP s r) s : Int) ≤ r.writes := by
  unfold afterP
  split
  · exact h.dif
  · rw [difS_self]
    have := h.nine
    omega
theorem run_caps (s : MSt) (l : List Ins) (args : List Int) (fuel maxw : Int) (pick : List Int) : 0 ≤ (runP s l args fuel maxw pick).steps ∧ (runP s l args fuel maxw pick).steps ≤ max fuel 0 ∧ (runP s l args fuel maxw pick).writes ≤ max maxw 0 := by
  unfold runP
  split
  · have hc : (goP l args maxw fuel.toNat (startP s pick)).writes ≤ max maxw 0 := by
      rcases go_cap l args maxw fuel.toNat (startP s pick) with h | h
      · rw [h]; show (0 : Int) ≤ _; omega
      · omega
    have h0 : (startP s pick).steps = 0 := rfl
    rcases go_fuel l args maxw fuel.toNat (startP s pick) rfl with ⟨h1, h2⟩ | ⟨k, h1, h2, h3, h4, h5, h6⟩
    · omega
    · omega
  · show (0 : Int) ≤ 0 ∧ (0 : Int) ≤ _ ∧ (0 : Int) ≤ _
    omega
theorem empty_few : Few64 emptyS := fun h hh => by simp [emptyS] at hh
end Go.Proofs.Ytjggmimaolddkaa

namespace Go.Proofs.Ytjggmimaolddkaa
open Go.RowKit
set_option linter.unusedVariables false

/-- How great everything is. -/
structure Cfg where
  T : Int
  B : Int
  W : Int
  F : Int
  fi : Int
  la : Int
def Cfg.cells (c : Cfg) : List Value := [.int .i64 c.T, .int .i64 c.B, .int .i64 c.W, .int .i64 c.F, .int .u64 c.fi, .int .u64 c.la]
def Cfg.v (c : Cfg) : Value := .agg #[.int .i64 c.T, .int .i64 c.B, .int .i64 c.W, .int .i64 c.F, .int .u64 c.fi, .int .u64 c.la]
structure Cfg.Right (c : Cfg) : Prop where
  T : 1 ≤ c.T ∧ c.T ≤ 8
  B : 1 ≤ c.B ∧ c.B ≤ 64
  W : 0 ≤ c.W ∧ c.W ≤ 64
  F : 1 ≤ c.F ∧ c.F ≤ 1000
  L : c.fi ≤ c.la ∧ c.la ≤ 140737488355328
def Cfg.right (c : Cfg) : Bool := decide (1 ≤ c.T) && decide (c.T ≤ 8) && decide (1 ≤ c.B) && decide (c.B ≤ 64) && decide (0 ≤ c.W) && decide (c.W ≤ 64) && decide (1 ≤ c.F) && decide (c.F ≤ 1000) && decide (c.fi ≤ c.la) && decide (c.la ≤ 140737488355328)
theorem Cfg.right_iff (c : Cfg) : c.right = true ↔ c.Right := by
  unfold Cfg.right
  simp only [Bool.and_eq_true, decide_eq_true_eq]
  exact ⟨fun h => ⟨⟨h.1.1.1.1.1.1.1.1.1, h.1.1.1.1.1.1.1.1.2⟩, ⟨h.1.1.1.1.1.1.1.2, h.1.1.1.1.1.1.2⟩, ⟨h.1.1.1.1.1.2, h.1.1.1.1.2⟩, ⟨h.1.1.1.2, h.1.1.2⟩, ⟨h.1.2, h.2⟩⟩,
    fun h => ⟨⟨⟨⟨⟨⟨⟨⟨⟨h.T.1, h.T.2⟩, h.B.1⟩, h.B.2⟩, h.W.1⟩, h.W.2⟩, h.F.1⟩, h.F.2⟩, h.L.1⟩, h.L.2⟩⟩
def Cfg.lim (c : Cfg) : Int := c.T * (c.W + 1)
def Cfg.cap (c : Cfg) : Int := c.T * (c.W + 3) + 3 * c.lim + 2
def Cfg.stride (c : Cfg) : Int := 8 + c.cap
def Cfg.fTag (c : Cfg) : Int := 1 + c.T * c.stride
def Cfg.fRoot (c : Cfg) : Int := c.fTag + c.T * 3
def Cfg.fLife (c : Cfg) : Int := c.fRoot + 16
def Cfg.fTop (c : Cfg) : Int := c.fLife + c.B
def Cfg.fStack (c : Cfg) : Int := c.fTop + 1
def Cfg.fLim (c : Cfg) : Int := c.fStack + c.B
def Cfg.fLimbo (c : Cfg) : Int := c.fLim + 1
def Cfg.fWord (c : Cfg) : Int := c.fLimbo + c.lim
def Cfg.size (c : Cfg) : Int := c.fWord + c.B * 8
/-- The map's table of where kinds begin. -/
def Cfg.from_ (c : Cfg) : List Int := [0, 0, 0, 0, 0, 0, 0, c.fTag, 0, 0, c.fRoot, c.fLife, c.fTop, c.fStack, c.fLim, c.fLimbo, c.fWord, c.size]
def zeroMap : Value := .agg #[.int .i64 0, .int .i64 0, .int .i64 0, .int .i64 0, .int .u64 0, .int .u64 0, .int .i64 0, .int .i64 0, .int .i64 0, .int .i64 0, .int .i64 0, .int .i64 0, .int .i64 0, .int .i64 0, .int .i64 0, .int .i64 0, .int .i64 0, .int .i64 0, .int .i64 0, .int .i64 0, .int .i64 0, .int .i64 0, .int .i64 0, .int .i64 0]
def Cfg.map (c : Cfg) : Value := .agg #[.int .i64 c.T, .int .i64 c.B, .int .i64 c.W, .int .i64 c.F, .int .u64 c.fi, .int .u64 c.la, .int .i64 0, .int .i64 0, .int .i64 0, .int .i64 0, .int .i64 0, .int .i64 0, .int .i64 0, .int .i64 c.fTag, .int .i64 0, .int .i64 0, .int .i64 c.fRoot, .int .i64 c.fLife, .int .i64 c.fTop, .int .i64 c.fStack, .int .i64 c.fLim, .int .i64 c.fLimbo, .int .i64 c.fWord, .int .i64 c.size]
structure Cfg.Bounds (c : Cfg) : Prop where
  lim : 1 ≤ c.lim ∧ c.lim ≤ 520
  cap : 8 ≤ c.cap ∧ c.cap ≤ 2098
  stride : 16 ≤ c.stride ∧ c.stride ≤ 2106
  tag : 17 ≤ c.fTag ∧ c.fTag ≤ 16849
  m3 : 3 ≤ c.T * 3 ∧ c.T * 3 ≤ 24
  m8 : 8 ≤ c.B * 8 ∧ c.B * 8 ≤ 512
theorem mul_bounds {a b x y u v : Int} (h1 : a ≤ x) (h2 : x ≤ b) (h3 : u ≤ y) (h4 : y ≤ v) (ha : 0 ≤ a) (hu : 0 ≤ u) : a * u ≤ x * y ∧ x * y ≤ b * v :=
  ⟨Int.mul_le_mul h1 h3 hu (by omega), Int.mul_le_mul h2 h4 (by omega) (by omega)⟩
theorem Cfg.Right.bounds {c : Cfg} (h : c.Right) : c.Bounds := by
  have h1 := mul_bounds h.T.1 h.T.2 (show 1 ≤ c.W + 1 by have := h.W.1; omega) (show c.W + 1 ≤ 65 by have := h.W.2; omega) (by omega) (by omega)
  have h2 := mul_bounds h.T.1 h.T.2 (show 3 ≤ c.W + 3 by have := h.W.1; omega) (show c.W + 3 ≤ 67 by have := h.W.2; omega) (by omega) (by omega)
  have h3 : 8 ≤ c.cap ∧ c.cap ≤ 2098 := by unfold Cfg.cap Cfg.lim; omega
  have h4 : 16 ≤ c.stride ∧ c.stride ≤ 2106 := by unfold Cfg.stride; omega
  have h5 := mul_bounds h.T.1 h.T.2 h4.1 h4.2 (by omega) (by omega)
  exact ⟨h1, h3, h4, by unfold Cfg.fTag; omega, by have := h.T; omega, by have := h.B; omega⟩

set_option maxRecDepth 100000 in
set_option maxHeartbeats 1000000 in
theorem lright_any (c : Cfg) (w : World) : Calls Try.prog 34 #[c.v] w fun e w' => e = .returned (.bool c.right) ∧ Below w.heap.size w w' := by
  obtain ⟨T, B, W, FU, fi, la⟩ := c
  unfold Cfg.v
  simp only
  have HB : Hid (Below w.heap.size w (w.alloc (.cells #[.int .i64 T, .int .i64 B, .int .i64 W, .int .i64 FU, .int .u64 fi, .int .u64 la] 44))) := (Below.refl _ _).alloc (Nat.le_refl _) _
  have HR : Hid (Cfg.right ⟨T, B, W, FU, fi, la⟩ = (decide (1 ≤ T) && decide (T ≤ 8) && decide (1 ≤ B) && decide (B ≤ 64) && decide (0 ≤ W) && decide (W ≤ 64) && decide (1 ≤ FU) && decide (FU ≤ 1000) && decide (fi ≤ la) && decide (la ≤ 140737488355328))) := rfl
  go_enter Try.func34, Try.ntmps34
  by_cases h0 : 1 ≤ T
  case neg =>
    go_wp2
    go_ret
    exact ⟨ret_bool (by rw [HR.out]; simp; intros; omega), HB.out⟩
  by_cases h1 : T ≤ 8
  case neg =>
    go_wp2
    go_ret
    exact ⟨ret_bool (by rw [HR.out]; simp; intros; omega), HB.out⟩
  by_cases h2 : 1 ≤ B
  case neg =>
    go_wp2
    go_ret
    exact ⟨ret_bool (by rw [HR.out]; simp; intros; omega), HB.out⟩
  by_cases h3 : B ≤ 64
  case neg =>
    go_wp2
    go_ret
    exact ⟨ret_bool (by rw [HR.out]; simp; intros; omega), HB.out⟩
  by_cases h4 : 0 ≤ W
  case neg =>
    go_wp2
    go_ret
    exact ⟨ret_bool (by rw [HR.out]; simp; intros; omega), HB.out⟩
  by_cases h5 : W ≤ 64
  case neg =>
    go_wp2
    go_ret
    exact ⟨ret_bool (by rw [HR.out]; simp; intros; omega), HB.out⟩
  by_cases h6 : 1 ≤ FU
  case neg =>
    go_wp2
    go_ret
    exact ⟨ret_bool (by rw [HR.out]; simp; intros; omega), HB.out⟩
  by_cases h7 : FU ≤ 1000
  case neg =>
    go_wp2
    go_ret
    exact ⟨ret_bool (by rw [HR.out]; simp; intros; omega), HB.out⟩
  by_cases h8 : fi ≤ la
  case neg =>
    go_wp2
    go_ret
    exact ⟨ret_bool (by rw [HR.out]; simp; intros; omega), HB.out⟩
  by_cases h9 : la ≤ 140737488355328
  case neg =>
    go_wp2
    go_ret
    exact ⟨ret_bool (by rw [HR.out]; simp; intros; omega), HB.out⟩
  go_wp2
  go_ret
  exact ⟨ret_bool (by rw [HR.out]; simp [*]), HB.out⟩

/-- The map's cells begin with how great everything is. -/
structure CfgIn (M : Array Value) (c : Cfg) : Prop where
  size : M.size = 24
  c0 : M[0]? = some (.int .i64 c.T)
  c1 : M[1]? = some (.int .i64 c.B)
  c2 : M[2]? = some (.int .i64 c.W)
  c3 : M[3]? = some (.int .i64 c.F)
  c4 : M[4]? = some (.int .u64 c.fi)
  c5 : M[5]? = some (.int .u64 c.la)
set_option maxRecDepth 100000 in
set_option maxHeartbeats 1000000 in
theorem llimit_any (c : Cfg) (M : Array Value) (hM : CfgIn M c) (hR : c.Right) (w : World) : Calls Try.prog 24 #[.agg M] w fun e w' => e = .returned (.int .i64 c.lim) ∧ Below w.heap.size w w' := by
  have HE : Hid (c.lim = c.T * (c.W + 1)) := rfl
  have hT := hR.T
  have hW := hR.W
  have hb := hR.bounds.lim
  rw [HE.out] at hb
  have HM := Lib.hid hM
  obtain ⟨T, B, W, FU, fi, la⟩ := c
  simp only at hT hW HE hb
  obtain ⟨hb1, hb2⟩ := hb
  have HB : Hid (Below w.heap.size w (w.alloc (.cells M 74))) := (Below.refl _ _).alloc (Nat.le_refl _) _
  have HK : Hid (Bk (w.alloc (.cells M 74)) w.heap.size 74 M) := Bk.new w _ _
  have j0 := (HK.out.cell 0).trans HM.out.c0
  have j2 := (HK.out.cell 2).trans HM.out.c2
  simp only at j0 j2
  clear hM hR
  go_enter Try.func24, Try.ntmps24
  go_wp2
  go_ret
  exact ⟨ret_int HE.out.symm, HB.out⟩
end Go.Proofs.Ytjggmimaolddkaa
