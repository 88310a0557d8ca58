import Derived.Test.YtjggmimaolddkaaOrAL
import Derived.Sort.Walk11
import Derived.Test.YtjggmimaolddkaaOrAN
import Derived.Sort.Walk13
namespace Go.Proofs.Ytjggmimaolddkaa
open Go.Sort Go.RowKit
set_option linter.unusedVariables false
theorem holds_asideU {w : World} {blk off sb so n t : Nat} {d : Array Int} (h : Holds (Value.int .u64) w blk off d) (hne : sb ≠ blk) : Holds (Value.int .u64) (putRow (Value.int .i64) (Sort.ahead w n) sb so (one t)) blk off d := fun j hj =>
 ⟨by rw [cell?_putRow_other _ _ _ _ _ _ (Or.inl (Ne.symm hne))]; exact (h j hj).1, by rw [frozen?_putRow]; exact (h j hj).2⟩
set_option maxHeartbeats 1000000 in
theorem srt_order2_u64 (d : Array Int) (len : Nat) (hlen : d.size = len) (blk off cap a b sb so s : Nat) (w : World) (hH : Holds (Value.int .u64) w blk off d) (ha : a < d.size) (hb : b < d.size)
 (hS : Holds (Value.int .i64) w sb so (one s)) (hs : s < 2 ^ 62) :
 Calls Try.prog 104 #[.slice (some ⟨blk, off, none⟩) len cap, .int .i64 a, .int .i64 b, .pointer (some ⟨sb, so, none⟩)] w fun e w' =>
  e = .returned (.tuple #[.int .i64 (order2 ltInt d a b s).1, .int .i64 (order2 ltInt d a b s).2.1]) ∧ ∃ n, w' = putRow (Value.int .i64) (Sort.ahead w n) sb so (one (order2 ltInt d a b s).2.2) := by
 subst hlen
 replace hs : s < 4611686018427387904 := by omega
 have ca := (hH a ha).1
 have cb := (hH b hb).1
 obtain ⟨cs, fs⟩ := one_cell hS
 have ea : d[a]! = d[a] := getElem!_pos d a ha
 have eb : d[b]! = d[b] := getElem!_pos d b hb
 go_enter Try.func104, Try.ntmps104
 go_wp2
 go_region_with (go_at_call 83; refine (srt_cmp_Less_u64 _ _ _).mono ?_; rintro e w' ⟨rfl, rfl⟩)
 all_goals (try go_wp2)
 all_goals first
  | (have hlt : ltInt d[b] d[a] = true := by assumption
     have e2 : order2 ltInt d a b s = (b, a, s + 1) := by simp [order2, ea, eb, hlt]
     go_ret2
     rw [e2]
     refine ⟨rfl, 1, ?_⟩
     rw [putRow_ahead, ← one_set hS (s + 1)]
     simp [drew_eq_ahead])
  | (have hlt : ltInt d[b] d[a] = false := by assumption
     have e2 : order2 ltInt d a b s = (a, b, s) := by simp [order2, ea, eb, hlt]
     go_ret2
     rw [e2]
     refine ⟨rfl, 1, ?_⟩
     rw [putRow_ahead, putRow_self _ _ _ _ _ hS]
     rfl)
set_option maxHeartbeats 1000000 in
set_option maxRecDepth 100000 in
theorem srt_median_u64 (d : Array Int) (len : Nat) (hlen : d.size = len) (blk off cap a b c sb so s : Nat) (w : World) (hH : Holds (Value.int .u64) w blk off d) (ha : a < d.size) (hb : b < d.size) (hc : c < d.size) (hne : sb ≠ blk)
 (hS : Holds (Value.int .i64) w sb so (one s)) (hs : s + 3 < 2 ^ 62) :
 Calls Try.prog 97 #[.slice (some ⟨blk, off, none⟩) len cap, .int .i64 a, .int .i64 b, .int .i64 c, .pointer (some ⟨sb, so, none⟩)] w fun e w' =>
  e = .returned (.int .i64 (median ltInt d a b c s).1) ∧ ∃ n, w' = putRow (Value.int .i64) (Sort.ahead w n) sb so (one (median ltInt d a b c s).2) := by
 subst hlen
 have l1 := order2_lt d s ha hb
 have s1 := order2_swaps d a b s
 have l2 := order2_lt d (order2 ltInt d a b s).2.2 l1.2 hc
 have s2 := order2_swaps d (order2 ltInt d a b s).2.1 c (order2 ltInt d a b s).2.2
 go_enter Try.func97, Try.ntmps97
 go_wp2_with (go_at_call_of 104 (Value.int .i64 (b : Int)); refine (srt_order2_u64 d _ rfl blk off cap a b sb so s w hH ha hb hS (by omega)).mono ?_; rintro e w' ⟨rfl, n1, rfl⟩)
 go_wp2_with (go_at_call_of 104 (Value.int .i64 (c : Int)); refine (srt_order2_u64 d _ rfl blk off cap (order2 ltInt d a b s).2.1 c sb so (order2 ltInt d a b s).2.2 _ (holds_asideU hH hne) l1.2 hc (holds_one hS) (by omega)).mono ?_; rintro e w' ⟨rfl, n2, rfl⟩)
 go_wp2_with (go_at_call_of 104 (Value.int .i64 ((order2 ltInt d a b s).1 : Int)); refine (srt_order2_u64 d _ rfl blk off cap (order2 ltInt d a b s).1 (order2 ltInt d (order2 ltInt d a b s).2.1 c (order2 ltInt d a b s).2.2).1 sb so (order2 ltInt d (order2 ltInt d a b s).2.1 c (order2 ltInt d a b s).2.2).2.2 _
  (holds_asideU (holds_asideU hH hne) hne) l1.1 l2.1 (holds_one (holds_one hS)) (by omega)).mono ?_; rintro e w' ⟨rfl, n3, rfl⟩)
 go_ret
 refine ⟨rfl, n1 + (n2 + n3), ?_⟩
 rw [one_one, one_one]
 rfl
set_option maxHeartbeats 1000000 in
set_option maxRecDepth 100000 in
theorem srt_medianAdjacent_u64 (d : Array Int) (len : Nat) (hlen : d.size = len) (blk off cap a sb so s : Nat) (w : World) (hH : Holds (Value.int .u64) w blk off d) (ha0 : 1 ≤ a) (ha : a + 1 < d.size) (hsz : d.size < 2 ^ 62) (hne : sb ≠ blk)
 (hS : Holds (Value.int .i64) w sb so (one s)) (hs : s + 3 < 2 ^ 62) :
 Calls Try.prog 96 #[.slice (some ⟨blk, off, none⟩) len cap, .int .i64 a, .pointer (some ⟨sb, so, none⟩)] w fun e w' =>
  e = .returned (.int .i64 (medianAdjacent ltInt d a s).1) ∧ ∃ n, w' = putRow (Value.int .i64) (Sort.ahead w n) sb so (one (medianAdjacent ltInt d a s).2) := by
 subst hlen
 replace hsz : d.size < 4611686018427387904 := by omega
 go_enter Try.func96, Try.ntmps96
 go_wp2_with (go_at_call 97; rw [show ((a : Int) - 1) = ((a - 1 : Nat) : Int) by omega, show ((a : Int) + 1) = ((a + 1 : Nat) : Int) by omega]; refine (srt_median_u64 d _ rfl blk off cap (a - 1) a (a + 1) sb so s w hH (by omega) (by omega) ha hne hS hs).mono ?_; rintro e w' ⟨rfl, n1, rfl⟩)
 go_ret
 exact ⟨rfl, n1, rfl⟩
theorem counter_growU (w : World) (N S : Nat) : ∃ os, putRow (Value.int .i64) (Sort.ahead (w.alloc (.cells #[.int .i64 0] 3)) N) w.heap.size 0 (one S) = grow (Sort.ahead w N) os := by
 rw [alloc_eq_grow, ahead_grow]
 obtain ⟨os, _, h⟩ := putRow_grow_new (Value.int .i64) (Sort.ahead w N) #[.cells #[.int .i64 0] 3] w.heap.size 0 (one S) (Nat.le_refl _)
 exact ⟨os, h⟩
theorem pivot_world_u64 (blk off cap : Nat) (d : Array Int) (w : World) (hH : Holds (Value.int .u64) w blk off d) (hblk : blk < w.heap.size) (hsz : d.size < 4611686018427387904) :
 ∃ Wc : Nat → Nat → World,
  w.alloc (.cells #[.int .i64 0] 3) = Wc 0 0 ∧
  (∀ N S : Nat, (Wc N S).cell? ⟨w.heap.size, 0, none⟩ = some (.int .i64 (S : Int))) ∧
  (∀ N S : Nat, ∃ os, Wc N S = grow (Sort.ahead w N) os) ∧
  (∀ x s N : Nat, 1 ≤ x → x + 1 < d.size → s + 3 < 4611686018427387904 → Calls Try.prog 96 #[.slice (some ⟨blk, off, none⟩) d.size cap, .int .i64 (x : Int), .pointer (some ⟨w.heap.size, 0, none⟩)] (Wc N s) fun e w' =>
    e = .returned (.int .i64 ((medianAdjacent ltInt d x s).1 : Int)) ∧ ∃ N', w' = Wc N' (medianAdjacent ltInt d x s).2) ∧
  (∀ x y z s N : Nat, x < d.size → y < d.size → z < d.size → s + 3 < 4611686018427387904 → Calls Try.prog 97 #[.slice (some ⟨blk, off, none⟩) d.size cap, .int .i64 (x : Int), .int .i64 (y : Int), .int .i64 (z : Int), .pointer (some ⟨w.heap.size, 0, none⟩)] (Wc N s) fun e w' =>
    e = .returned (.int .i64 ((median ltInt d x y z s).1 : Int)) ∧ ∃ N', w' = Wc N' (median ltInt d x y z s).2) := by
 have hne : w.heap.size ≠ blk := by omega
 have hH0 : Holds (Value.int .u64) (w.alloc (.cells #[.int .i64 0] 3)) blk off d := by rw [alloc_eq_grow]; exact holds_grow _ _ _ _ _ _ hblk hH
 have hS0 : Holds (Value.int .i64) (w.alloc (.cells #[.int .i64 0] 3)) w.heap.size 0 (one 0) := fun j hj => by
  obtain rfl : j = 0 := by simpa using hj
  simp
 refine ⟨fun N S => putRow (Value.int .i64) (Sort.ahead (w.alloc (.cells #[.int .i64 0] 3)) N) w.heap.size 0 (one S), (putRow_self _ _ _ _ _ hS0).symm, fun N S => (one_cell (holds_one (n := N) (t := S) hS0)).1, fun N S => counter_growU w N S, ?_, ?_⟩
 ·intro x s N h1 h2 hs
  refine (srt_medianAdjacent_u64 d _ rfl blk off cap x w.heap.size 0 s _ (holds_asideU hH0 hne) h1 h2 (by omega) hne (holds_one hS0) (by omega)).mono ?_
  rintro e w' ⟨he, n, hw⟩
  exact ⟨he, N + n, by rw [hw, one_one]⟩
 ·intro x y z s N h1 h2 h3 hs
  refine (srt_median_u64 d _ rfl blk off cap x y z w.heap.size 0 s _ (holds_asideU hH0 hne) h1 h2 h3 hne (holds_one hS0) (by omega)).mono ?_
  rintro e w' ⟨he, n, hw⟩
  exact ⟨he, N + n, by rw [hw, one_one]⟩
set_option maxRecDepth 100000 in
theorem srt_choosePivot_u64 (blk off cap a b : Nat) (d : Array Int) (w : World) (hH : Holds (Value.int .u64) w blk off d) (hblk : blk < w.heap.size) (hab : a < b) (hb : b ≤ d.size) (hsz : d.size < 4611686018427387904) :
 Calls Try.prog 80 #[.slice (some ⟨blk, off, none⟩) d.size cap, .int .i64 a, .int .i64 b] w fun e w' =>
  e = .returned (.tuple #[.int .i64 (choosePivot ltInt d a b).1, .int .i64 (hintCode (choosePivot ltInt d a b).2)]) ∧ ∃ n os, w' = grow (Sort.ahead w n) os := by
 obtain ⟨Wc, hW0, cS, hG, MA, MD⟩ := pivot_world_u64 blk off cap d w hH hblk hsz
 clear hH
 rw [choosePivot_eq]
 obtain ⟨I, hI⟩ : ∃ I : Nat, I = a + (b - a) / 4 * 1 := ⟨_, rfl⟩
 obtain ⟨J, hJ⟩ : ∃ J : Nat, J = a + (b - a) / 4 * 2 := ⟨_, rfl⟩
 obtain ⟨K, hK⟩ : ∃ K : Nat, K = a + (b - a) / 4 * 3 := ⟨_, rfl⟩
 have eI : ((a : Int) + ((b : Int) - (a : Int)) / 4) = (I : Int) := by omega
 have eJ : ((a : Int) + ((b : Int) - (a : Int)) / 4 * 2) = (J : Int) := by omega
 have eK : ((a : Int) + ((b : Int) - (a : Int)) / 4 * 3) = (K : Int) := by omega
 by_cases h8 : b - a ≥ 8
 ·by_cases h50 : b - a ≥ 50
  ·
   obtain ⟨i1, s1, h1⟩ : ∃ i1 s1, medianAdjacent ltInt d I 0 = (i1, s1) := ⟨_, _, rfl⟩
   obtain ⟨j1, s2, h2⟩ : ∃ j1 s2, medianAdjacent ltInt d J s1 = (j1, s2) := ⟨_, _, rfl⟩
   obtain ⟨k1, s3, h3⟩ : ∃ k1 s3, medianAdjacent ltInt d K s2 = (k1, s3) := ⟨_, _, rfl⟩
   obtain ⟨p, s, h4⟩ : ∃ p s, median ltInt d i1 j1 k1 s3 = (p, s) := ⟨_, _, rfl⟩
   have hraw : rawPivot ltInt d a b = (p, s) := by simp only [rawPivot, if_pos h8, if_pos h50, ← hI, ← hJ, ← hK, h1, h2, h3, h4]
   have m1 := medianAdjacent_mem ltInt d I 0; rw [h1] at m1
   have m2 := medianAdjacent_mem ltInt d J s1; rw [h2] at m2
   have m3 := medianAdjacent_mem ltInt d K s2; rw [h3] at m3
   have n1 := medianAdjacent_count ltInt d I 0; rw [h1] at n1
   have n2 := medianAdjacent_count ltInt d J s1; rw [h2] at n2
   have n3 := medianAdjacent_count ltInt d K s2; rw [h3] at n3
   simp only [] at m1 m2 m3 n1 n2 n3
   have c1 : Calls Try.prog 96 #[.slice (some ⟨blk, off, none⟩) d.size cap, .int .i64 (I : Int), .pointer (some ⟨w.heap.size, 0, none⟩)] (Wc 0 0) fun e w' => e = .returned (.int .i64 (i1 : Int)) ∧ ∃ N', w' = Wc N' s1 := by
    have h := MA I 0 0 (by omega) (by omega) (by omega); rw [h1] at h; exact h
   have c2 : ∀ N, Calls Try.prog 96 #[.slice (some ⟨blk, off, none⟩) d.size cap, .int .i64 (J : Int), .pointer (some ⟨w.heap.size, 0, none⟩)] (Wc N s1) fun e w' => e = .returned (.int .i64 (j1 : Int)) ∧ ∃ N', w' = Wc N' s2 := fun N => by
    have h := MA J s1 N (by omega) (by omega) (by omega); rw [h2] at h; exact h
   have c3 : ∀ N, Calls Try.prog 96 #[.slice (some ⟨blk, off, none⟩) d.size cap, .int .i64 (K : Int), .pointer (some ⟨w.heap.size, 0, none⟩)] (Wc N s2) fun e w' => e = .returned (.int .i64 (k1 : Int)) ∧ ∃ N', w' = Wc N' s3 := fun N => by
    have h := MA K s2 N (by omega) (by omega) (by omega); rw [h3] at h; exact h
   have c4 : ∀ N, Calls Try.prog 97 #[.slice (some ⟨blk, off, none⟩) d.size cap, .int .i64 (i1 : Int), .int .i64 (j1 : Int), .int .i64 (k1 : Int), .pointer (some ⟨w.heap.size, 0, none⟩)] (Wc N s3) fun e w' => e = .returned (.int .i64 (p : Int)) ∧ ∃ N', w' = Wc N' s := fun N => by
    have h := MD i1 j1 k1 s3 N (by omega) (by omega) (by omega) (by omega); rw [h4] at h; exact h
   rw [hraw]
   obtain ⟨Hc, hHc⟩ : ∃ Hc : Int, Hc = hintCode (hintOf s) := ⟨_, rfl⟩
   have hh0 : s = 0 → Hc = 1 := fun h => by rw [hHc, h]; rfl
   have hh12 : s = 12 → Hc = 2 := fun h => by rw [hHc, h]; rfl
   have hhx : s ≠ 0 → s ≠ 12 → Hc = 0 := fun h1 h2 => by rw [hHc]; unfold hintOf; rw [if_neg h1, if_neg h2]; rfl
   show Calls Try.prog 80 _ w fun e w' => e = .returned (.tuple #[.int .i64 (p : Int), .int .i64 (hintCode (hintOf s))]) ∧ ∃ n os, w' = grow (Sort.ahead w n) os
   rw [← hHc]
   clear hHc hraw
   clear h1 h2 h3 h4 MA MD hI hJ hK m1 m2 m3
   go_enter Try.func80, Try.ntmps80
   go_wp2_with (first
    | (go_at_call_has 96 (Value.int .i64 (I : Int)); refine c1.mono ?_; rintro e w' ⟨rfl, N1, rfl⟩)
    | (go_at_call_has 96 (Value.int .i64 (J : Int)); refine (c2 _).mono ?_; rintro e w' ⟨rfl, N2, rfl⟩)
    | (go_at_call_has 96 (Value.int .i64 (K : Int)); refine (c3 _).mono ?_; rintro e w' ⟨rfl, N3, rfl⟩)
    | (go_at_call 97; refine (c4 _).mono ?_; rintro e w' ⟨rfl, N4, rfl⟩))
   all_goals
    go_ret2
    refine ⟨?_, _, hG _ _⟩
    first
     | (have e0 : (s : Int) = 0 := of_beq_int (by assumption)
        rw [hh0 (by omega)]; rfl)
     | (have e1 : (s : Int) = 12 := of_beq_int (by assumption)
        rw [hh12 (by omega)]; rfl)
     | (have e0 : (s : Int) ≠ 0 := of_bne_int (by assumption)
        have e1 : (s : Int) ≠ 12 := of_bne_int (by assumption)
        rw [hhx (by omega) (by omega)]; rfl)
     | (rw [hh0 (by omega)]; rfl)
  ·
   obtain ⟨p, s, h4⟩ : ∃ p s, median ltInt d I J K 0 = (p, s) := ⟨_, _, rfl⟩
   have hraw : rawPivot ltInt d a b = (p, s) := by simp only [rawPivot, if_pos h8, if_neg h50, ← hI, ← hJ, ← hK, h4]
   have c4 : Calls Try.prog 97 #[.slice (some ⟨blk, off, none⟩) d.size cap, .int .i64 (I : Int), .int .i64 (J : Int), .int .i64 (K : Int), .pointer (some ⟨w.heap.size, 0, none⟩)] (Wc 0 0) fun e w' => e = .returned (.int .i64 (p : Int)) ∧ ∃ N', w' = Wc N' s := by
    have h := MD I J K 0 0 (by omega) (by omega) (by omega) (by omega); rw [h4] at h; exact h
   rw [hraw]
   obtain ⟨Hc, hHc⟩ : ∃ Hc : Int, Hc = hintCode (hintOf s) := ⟨_, rfl⟩
   have hh0 : s = 0 → Hc = 1 := fun h => by rw [hHc, h]; rfl
   have hh12 : s = 12 → Hc = 2 := fun h => by rw [hHc, h]; rfl
   have hhx : s ≠ 0 → s ≠ 12 → Hc = 0 := fun h1 h2 => by rw [hHc]; unfold hintOf; rw [if_neg h1, if_neg h2]; rfl
   show Calls Try.prog 80 _ w fun e w' => e = .returned (.tuple #[.int .i64 (p : Int), .int .i64 (hintCode (hintOf s))]) ∧ ∃ n os, w' = grow (Sort.ahead w n) os
   rw [← hHc]
   clear hHc hraw
   clear h4 MA MD hI hJ hK
   go_enter Try.func80, Try.ntmps80
   go_wp2_with (first | (go_at_call 97; refine c4.mono ?_; rintro e w' ⟨rfl, N4, rfl⟩))
   all_goals
    go_ret2
    refine ⟨?_, _, hG _ _⟩
    first
     | (have e0 : (s : Int) = 0 := of_beq_int (by assumption)
        rw [hh0 (by omega)]; rfl)
     | (have e1 : (s : Int) = 12 := of_beq_int (by assumption)
        rw [hh12 (by omega)]; rfl)
     | (have e0 : (s : Int) ≠ 0 := of_bne_int (by assumption)
        have e1 : (s : Int) ≠ 12 := of_bne_int (by assumption)
        rw [hhx (by omega) (by omega)]; rfl)
     | (rw [hh0 (by omega)]; rfl)
 ·
  obtain ⟨p, hp⟩ : ∃ p : Nat, p = J := ⟨_, rfl⟩
  obtain ⟨s, hs⟩ : ∃ s : Nat, s = 0 := ⟨_, rfl⟩
  have hraw : rawPivot ltInt d a b = (p, s) := by simp only [rawPivot, if_neg h8, ← hJ, hp, hs]
  rw [hraw]
  obtain ⟨Hc, hHc⟩ : ∃ Hc : Int, Hc = hintCode (hintOf s) := ⟨_, rfl⟩
  have hh0 : s = 0 → Hc = 1 := fun h => by rw [hHc, h]; rfl
  have hh12 : s = 12 → Hc = 2 := fun h => by rw [hHc, h]; rfl
  have hhx : s ≠ 0 → s ≠ 12 → Hc = 0 := fun h1 h2 => by rw [hHc]; unfold hintOf; rw [if_neg h1, if_neg h2]; rfl
  show Calls Try.prog 80 _ w fun e w' => e = .returned (.tuple #[.int .i64 (p : Int), .int .i64 (hintCode (hintOf s))]) ∧ ∃ n os, w' = grow (Sort.ahead w n) os
  rw [← hHc]
  clear hHc hraw
  subst hp
  clear MA MD hI hJ hK
  have hW0' : w.alloc (.cells #[.int .i64 0] 3) = Wc 0 s := by rw [hs]; exact hW0
  clear hW0
  go_enter Try.func80, Try.ntmps80
  go_wp2
  all_goals
   go_ret2
   refine ⟨?_, _, hG _ _⟩
   first
    | (have e0 : (s : Int) = 0 := of_beq_int (by assumption)
       rw [hh0 (by omega)]; rfl)
    | (have e1 : (s : Int) = 12 := of_beq_int (by assumption)
       rw [hh12 (by omega)]; rfl)
    | (have e0 : (s : Int) ≠ 0 := of_bne_int (by assumption)
       have e1 : (s : Int) ≠ 12 := of_bne_int (by assumption)
       rw [hhx (by omega) (by omega)]; rfl)
    | (rw [hh0 (by omega)]; rfl)
end Go.Proofs.Ytjggmimaolddkaa
namespace Go.Proofs.Ytjggmimaolddkaa
open Go.Sort Go.RowKit
set_option linter.unusedVariables false
structure Callees13U : Prop where
 ins : ∀ (blk off cap a b : Nat) (d : Array Int) (w : World), Holds (Value.int .u64) w blk off d → a ≤ b → b ≤ d.size → d.size < 4611686018427387904 →
  Calls Try.prog 77 #[.slice (some ⟨blk, off, none⟩) d.size cap, .int .i64 a, .int .i64 b] w fun e w' => e = .returned (.tuple #[]) ∧ ∃ n, w' = putRow (Value.int .u64) (Sort.ahead w n) blk off (insertionSort ltInt d a b)
 brk : ∀ (blk off cap a b : Nat) (d : Array Int) (w : World), Holds (Value.int .u64) w blk off d → blk < w.heap.size → a ≤ b → b ≤ d.size → d.size < 4611686018427387904 →
  Calls Try.prog 79 #[.slice (some ⟨blk, off, none⟩) d.size cap, .int .i64 a, .int .i64 b] w fun e w' => e = .returned (.tuple #[]) ∧ ∃ n os, w' = grow (putRow (Value.int .u64) (Sort.ahead w n) blk off (breakPatterns d a b)) os
 piv : ∀ (blk off cap a b : Nat) (d : Array Int) (w : World), Holds (Value.int .u64) w blk off d → blk < w.heap.size → a < b → b ≤ d.size → d.size < 4611686018427387904 →
  Calls Try.prog 80 #[.slice (some ⟨blk, off, none⟩) d.size cap, .int .i64 a, .int .i64 b] w fun e w' => e = .returned (.tuple #[.int .i64 (choosePivot ltInt d a b).1, .int .i64 (hintCode (choosePivot ltInt d a b).2)]) ∧ ∃ n os, w' = grow (Sort.ahead w n) os
 par : ∀ (blk off cap a b : Nat) (d : Array Int) (w : World), Holds (Value.int .u64) w blk off d → a < b → b ≤ d.size → d.size < 4611686018427387904 →
  Calls Try.prog 82 #[.slice (some ⟨blk, off, none⟩) d.size cap, .int .i64 a, .int .i64 b] w fun e w' => e = .returned (.bool (partialInsertionSort ltInt d a b).2) ∧ ∃ n, w' = putRow (Value.int .u64) (Sort.ahead w n) blk off (partialInsertionSort ltInt d a b).1
 peq : ∀ (blk off cap a b pivot : Nat) (d : Array Int) (w : World), Holds (Value.int .u64) w blk off d → a ≤ pivot → pivot < b → b ≤ d.size → d.size < 4611686018427387904 →
  Calls Try.prog 84 #[.slice (some ⟨blk, off, none⟩) d.size cap, .int .i64 a, .int .i64 b, .int .i64 pivot] w fun e w' => e = .returned (.int .i64 (partitionEqual ltInt d a b pivot).1) ∧ ∃ n, w' = putRow (Value.int .u64) (Sort.ahead w n) blk off (partitionEqual ltInt d a b pivot).2
 prt : ∀ (blk off cap a b pivot : Nat) (d : Array Int) (w : World), Holds (Value.int .u64) w blk off d → a ≤ pivot → pivot < b → b ≤ d.size → d.size < 4611686018427387904 →
  Calls Try.prog 85 #[.slice (some ⟨blk, off, none⟩) d.size cap, .int .i64 a, .int .i64 b, .int .i64 pivot] w fun e w' => e = .returned (.tuple #[.int .i64 (partition ltInt d a b pivot).1, .bool (partition ltInt d a b pivot).2.1]) ∧ ∃ n, w' = putRow (Value.int .u64) (Sort.ahead w n) blk off (partition ltInt d a b pivot).2.2
set_option maxHeartbeats 6400000 in
set_option maxRecDepth 1000000 in
theorem srt_pdqsort_u64 (C : Callees13U) (S : Plain13) : ∀ (N blk off cap a b limit : Nat) (d : Array Int) (w : World), b - a < N → Holds (Value.int .u64) w blk off d → blk < w.heap.size → a ≤ b → b ≤ d.size → d.size < 4611686018427387904 → limit < 4611686018427387904 → Below ltInt a b d →
 Calls Try.prog 62 #[.slice (some ⟨blk, off, none⟩) d.size cap, .int .i64 a, .int .i64 b, .int .i64 limit] w fun e w' => e = .returned (.tuple #[]) ∧ At (Value.int .u64) w blk off (pdq ltInt d a b limit true true) w' := by
 intro N
 induction N with
 | zero => intro _ _ _ _ _ _ _ _ h; exact absurd h (Nat.not_lt_zero _)
 | succ N ih =>
   intro blk off cap a b limit d w hN hH hblk hab hb hsz hlimit hBel0
   go_enter Try.func62, Try.ntmps62
   go_wp2
   go_loopg [1, 2, 3, 8, 9] (b - a) (fun k s1 s2 s3 s8 s9 wr => ∃ (a' b' lim : Nat) (wb wp : Bool) (dk : Array Int), s1 = .int .i64 a' ∧ s2 = .int .i64 b' ∧ s3 = .int .i64 lim ∧ s8 = .bool wb ∧ s9 = .bool wp ∧
    a' ≤ b' ∧ b' ≤ d.size ∧ b' - a' ≤ k ∧ k ≤ b - a ∧ lim ≤ limit ∧ dk.size = d.size ∧ Below ltInt a' b' dk ∧ At (Value.int .u64) w blk off dk wr ∧ pdq ltInt dk a' b' lim wb wp = pdq ltInt d a b limit true true)
   case atStart => exact ⟨a, b, limit, true, true, d, rfl, rfl, rfl, rfl, rfl, hab, hb, Nat.le_refl _, Nat.le_refl _, Nat.le_refl _, rfl, hBel0, At.refl hH, rfl⟩
   case round =>
    obtain ⟨a', b', lim, wb, wp, dk, rfl, rfl, rfl, rfl, rfl, hab', hb', hk, hkN, hlim, hds, hBel, hAt, heq⟩ := hrel
    obtain ⟨hHk, hblk'⟩ := hAt.holds hH hds hblk
    have A : Aside (pdq ltInt dk a' b' lim wb wp = pdq ltInt d a b limit true true) := heq
    clear heq
    by_cases h12 : b' - a' ≤ 12
    ·
     have h12z : (b' : Int) - (a' : Int) ≤ 12 := by omega
     have hc := C.ins blk off cap a' b' dk wr hHk hab' (by omega) (by omega)
     rw [hds] at hc
     go_wp2_with (go_at_call 77; refine hc.mono ?_; rintro e w1 ⟨rfl, hw1⟩)
     (try simp only [Exit.inBlock, Exit.then]); refine bodyPost_ret (results_none rfl _ _ _) rfl ?_
     refine ⟨rfl, ?_⟩
     rw [← A.out, pdq_small h12]
     exact hAt.step hblk (S.ins S.swo dk a' b' hab' (by omega)).1.1 hw1
    ·have h12z : ¬ ((b' : Int) - (a' : Int) ≤ 12) := by omega
     by_cases hl0 : lim = 0
     ·
      subst hl0
      have hc := srt_heapSort_u64 blk off d.size cap dk hds a' b' wr hHk hab' (by omega) (by omega)
      go_wp2_with (go_at_call 78; refine hc.mono ?_; rintro e w1 ⟨rfl, hw1⟩)
      (try simp only [Exit.inBlock, Exit.then]); refine bodyPost_ret (results_none rfl _ _ _) rfl ?_
      refine ⟨rfl, ?_⟩
      rw [← A.out, pdq_heap h12 rfl]
      exact hAt.step hblk (heapSort_holds S.swo dk a' b' hab' (by omega)).1.1 hw1
     ·have hl0z : ¬ ((lim : Int) = 0) := by omega
      obtain ⟨s1, B1, hc1, s2, B2, hpv, s3, B3⟩ := rd_facts (limit := lim) (wb := wb) (wp := wp) S.swo S.par reverseRange_holds (show a' < b' by omega) (show b' ≤ dk.size by omega) hBel
      go_upto_if 35 with fail
      go_cut [3] from 19 (fun s3 wc => s3 = .int .i64 (rd ltInt dk a' b' lim wb wp).lim ∧ At (Value.int .u64) w blk off (rd ltInt dk a' b' lim wb wp).d1 wc)
      case first =>
       cases wb
       ·have hc := C.brk blk off cap a' b' dk wr hHk hblk' hab' (by omega) (by omega)
        rw [hds] at hc
        go_wp2_with (go_at_call 79; refine hc.mono ?_; rintro e w1 ⟨rfl, hw1⟩)
        go_meet
        case rel =>
         refine ⟨?_, hAt.stepG hblk s1 hw1⟩
         show Value.int .i64 ((lim : Int) - 1) = Value.int .i64 ((lim - 1 : Nat) : Int)
         congr 1
         omega
       ·go_wp2_with fail
        go_meet
        case rel => exact ⟨rfl, hAt⟩
      case rest =>
       obtain ⟨rfl, hAt1⟩ := hcut
       obtain ⟨hH1, hblk1⟩ := hAt1.holds hH (s1.trans hds) hblk
       have hc17 : Calls Try.prog 80 #[.slice (some ⟨blk, off, none⟩) d.size cap, .int .i64 a', .int .i64 b'] wc fun e w' => e = .returned (.tuple #[.int .i64 (rd ltInt dk a' b' lim wb wp).c.1, .int .i64 (hintCode (rd ltInt dk a' b' lim wb wp).c.2)]) ∧ ∃ n os, w' = grow (Sort.ahead wc n) os := by
        have := C.piv blk off cap a' b' (rd ltInt dk a' b' lim wb wp).d1 wc hH1 hblk1 (by omega) (by omega) (by omega)
        rw [s1, hds] at this
        exact this
       go_upto_if 50 with (go_at_call 80; refine hc17.mono ?_; rintro e w2 ⟨rfl, hw2⟩)
       have hAt2 : At (Value.int .u64) w blk off (rd ltInt dk a' b' lim wb wp).d1 w2 := hAt1.same hH (s1.trans hds) hblk hw2
       obtain ⟨hH2, hblk2⟩ := hAt2.holds hH (s1.trans hds) hblk
       go_cut [11, 12] from 19 (fun s11 s12 wc => s11 = .int .i64 (rd ltInt dk a' b' lim wb wp).pivot ∧ s12 = .int .i64 (hintCode (rd ltInt dk a' b' lim wb wp).hint) ∧ At (Value.int .u64) w blk off (rd ltInt dk a' b' lim wb wp).d2 wc)
       case first =>
        by_cases hh : (rd ltInt dk a' b' lim wb wp).c.2 = .decreasing
        ·have hcode : hintCode (rd ltInt dk a' b' lim wb wp).c.2 = 2 := by rw [hh]; rfl
         obtain ⟨e2, epv, eht⟩ := rd_dec hh
         have hc18 := srt_reverseRange_u64 blk off cap (rd ltInt dk a' b' lim wb wp).d1 a' b' w2 hH2 hab' (by omega) (by omega)
         rw [s1, hds] at hc18
         go_wp2_with (go_at_call 81; refine hc18.mono ?_; rintro e w3 ⟨rfl, hw3⟩)
         go_meet
         case rel =>
          refine ⟨?_, by rw [eht]; rfl, by rw [e2]; exact hAt2.step hblk (by rw [← e2, s2, s1]) hw3⟩
          rw [epv]
          congr 1
          omega
        ·have hcode : ¬ (hintCode (rd ltInt dk a' b' lim wb wp).c.2 = 2) := fun h => hh (hintCode_two h)
         obtain ⟨e2, epv, eht⟩ := rd_not hh
         go_wp2_with fail
         go_meet
         case rel => exact ⟨by rw [epv], by rw [eht], by rw [e2]; exact hAt2⟩
       case rest =>
        obtain ⟨rfl, rfl, hAt3⟩ := hcut
        obtain ⟨hH3, hblk3⟩ := hAt3.holds hH (s2.trans hds) hblk
        go_upto_region 15 with fail
        go_cut [12, 68] from 19 (fun s12 s68 wx => s12 = .int .i64 (hintCode (rd ltInt dk a' b' lim wb wp).hint) ∧ s68 = .bool (wb && wp && decide ((rd ltInt dk a' b' lim wb wp).hint = .increasing)) ∧ wx = wc)
        case first =>
         cases wb <;> cases wp <;> cases hh3 : (rd ltInt dk a' b' lim _ _).hint <;>
          (have hcode3 := congrArg hintCode hh3
           simp only [hintCode] at hcode3
           go_wp2_with fail
           go_meet
           exact ⟨by simp [hh3, hintCode], by simp [hh3, hintCode], rfl⟩)
        case rest =>
         obtain ⟨rfl, rfl, rfl⟩ := hcut
         go_upto_if 68 with fail
         go_cut [] from 19 (fun wx => (rd ltInt dk a' b' lim wb wp).pi.2 = false ∧ At (Value.int .u64) w blk off (rd ltInt dk a' b' lim wb wp).pi.1 wx)
         case first =>
          cases h68 : (wb && wp && decide ((rd ltInt dk a' b' lim wb wp).hint = .increasing))
          ·have epi := rd_pi_no h68
           go_wp2_with fail
           go_meet
           case rel => exact ⟨by rw [epi], by rw [epi]; exact hAt3⟩
          ·have epi := rd_pi_yes h68
           have hc19 := C.par blk off cap a' b' (rd ltInt dk a' b' lim wb wp).d2 wc hH3 (by omega) (by omega) (by omega)
           rw [s2, hds, ← epi] at hc19
           go_wp2_with (go_at_call 82; refine hc19.mono ?_; rintro e w4 ⟨rfl, hw4⟩)
           all_goals first
            | (have hp2 : (rd ltInt dk a' b' lim wb wp).pi.2 = false := by rw [epi]; assumption
               go_meet
               exact ⟨hp2, hAt3.step hblk (by rw [s3, s2]) hw4⟩)
            | (have hp2 : (rd ltInt dk a' b' lim wb wp).pi.2 = true := by rw [epi]; assumption
               (try simp only [Exit.inBlock, Exit.then]); refine bodyPost_ret (results_none rfl _ _ _) rfl ?_
               refine ⟨rfl, ?_⟩
               rw [← A.out, pdq_done h12 hl0 hp2]
               exact hAt3.step hblk (by rw [s3, s2]) hw4)
         case rest =>
          obtain ⟨hp2, hAt5⟩ := hcut
          obtain ⟨hH5, hblk5⟩ := hAt5.holds hH (s3.trans hds) hblk
          have hcw : ∀ t, t < d.size → wc.cell? ⟨blk, off + t, none⟩ = some (.int .u64 (rd ltInt dk a' b' lim wb wp).pi.1[t]!) := fun t ht => (hH5 t (by omega)).1
          have hfw : ∀ t, t < d.size → wc.frozen? ⟨blk, off + t, none⟩ = false := fun t ht => (hH5 t (by omega)).2
          go_upto_region 17 with fail
          go_cut [87] from 19 (fun s87 wx => s87 = .bool (decide (a' > 0) && !ltInt (rd ltInt dk a' b' lim wb wp).pi.1[a' - 1]! (rd ltInt dk a' b' lim wb wp).pi.1[(rd ltInt dk a' b' lim wb wp).pivot]!) ∧ At (Value.int .u64) w blk off (rd ltInt dk a' b' lim wb wp).pi.1 wx)
          case first =>
           rcases Nat.eq_zero_or_pos a' with ha0 | ha0
           ·have ha0z : decide ((a' : Int) > 0) = false := decide_eq_false (by omega)
            go_big_quiet (first | (go_at_call 83; refine Calls.quiet_of_same (srt_cmp_Less_u64 _ _ _)))
            go_wp2_with fail
            go_meet
            case rel => exact ⟨by simp [ha0], hAt5.ahead nq⟩
           ·have ha0z : (a' : Int) > 0 := by omega
            go_big_quiet (first | (go_at_call 83; refine Calls.quiet_of_same (srt_cmp_Less_u64 _ _ _)))
            go_wp2_with fail
            go_meet
            case rel => exact ⟨by simp [ha0], hAt5.ahead nq⟩
          case rest =>
           obtain ⟨rfl, hAt6⟩ := hcut
           obtain ⟨hH6, hblk6⟩ := hAt6.holds hH (s3.trans hds) hblk
           clear hcw hfw
           cases h87 : (decide (a' > 0) && !ltInt (rd ltInt dk a' b' lim wb wp).pi.1[a' - 1]! (rd ltInt dk a' b' lim wb wp).pi.1[(rd ltInt dk a' b' lim wb wp).pivot]!)
           ·
            obtain ⟨mid, ap, d4, hx⟩ : ∃ mid ap d4, partition ltInt (rd ltInt dk a' b' lim wb wp).pi.1 a' b' (rd ltInt dk a' b' lim wb wp).pivot = (mid, ap, d4) := ⟨(partition ltInt (rd ltInt dk a' b' lim wb wp).pi.1 a' b' (rd ltInt dk a' b' lim wb wp).pivot).1, (partition ltInt (rd ltInt dk a' b' lim wb wp).pi.1 a' b' (rd ltInt dk a' b' lim wb wp).pivot).2.1, (partition ltInt (rd ltInt dk a' b' lim wb wp).pi.1 a' b' (rd ltInt dk a' b' lim wb wp).pivot).2.2, rfl⟩
            obtain ⟨r1, r2, r3, r4, r5, r6, r7⟩ := round_part S.swo S.prt hpv.1 hpv.2 (show b' ≤ (rd ltInt dk a' b' lim wb wp).pi.1.size by omega) B3 hx
            have hc22 := C.prt blk off cap a' b' (rd ltInt dk a' b' lim wb wp).pivot (rd ltInt dk a' b' lim wb wp).pi.1 wc hH6 hpv.1 hpv.2 (by omega) (by omega)
            rw [s3, hds, hx] at hc22
            have X : Aside (partition ltInt (rd ltInt dk a' b' lim wb wp).pi.1 a' b' (rd ltInt dk a' b' lim wb wp).pivot = (mid, ap, d4)) := hx
            clear hx
            go_upto_if 113 with (go_at_call 85; refine hc22.mono ?_; rintro e w7 ⟨rfl, hw7⟩)
            have hx := X.out
            have hAt7 : At (Value.int .u64) w blk off d4 w7 := hAt6.step hblk r3 hw7
            obtain ⟨hH7, hblk7⟩ := hAt7.holds hH (r3.trans (s3.trans hds)) hblk
            by_cases h4 : mid - a' < b' - mid
            ·have h4z : (mid : Int) - (a' : Int) < (b' : Int) - (mid : Int) := by omega
             have hih := ih blk off cap a' mid (rd ltInt dk a' b' lim wb wp).lim d4 w7 (by omega) hH7 hblk7 (by omega) (by omega) (by omega) (Nat.lt_of_le_of_lt (Nat.le_trans rd_lim_le hlim) hlimit) r4
             rw [r3, s3, hds] at hih
             obtain ⟨pL, sL⟩ := S.pdq S.swo d4 a' mid (rd ltInt dk a' b' lim wb wp).lim true true (by omega) (by omega) r4
             go_wp2_with (go_at_call 62; refine hih.mono ?_; rintro e w8 ⟨rfl, hw8⟩)
             go_roundg (b' - (mid + 1))
             case measure => omega
             case rel =>
              refine ⟨mid + 1, b', (rd ltInt dk a' b' lim wb wp).lim, decide (mid - a' ≥ (b' - a') / 8), ap, pdq ltInt d4 a' mid (rd ltInt dk a' b' lim wb wp).lim true true, by simp, rfl, rfl, ?_, rfl, by omega, by omega, Nat.le_refl _, by omega, Nat.le_trans rd_lim_le hlim, by rw [pL.1, r3, s3, hds], (r6 _ pL sL).1, hAt7.stepG hblk pL.1 hw8, ?_⟩
              ·exact congrArg Value.bool (eighth (by omega) (by omega))
              ·rw [← A.out, pdq_left h12 hl0 hp2 h87 (by rw [hx]; exact ⟨r1, r2⟩) (by rw [hx]; exact h4), hx]
            ·have h4z : ¬ ((mid : Int) - (a' : Int) < (b' : Int) - (mid : Int)) := by omega
             have hih := ih blk off cap (mid + 1) b' (rd ltInt dk a' b' lim wb wp).lim d4 w7 (by omega) hH7 hblk7 (by omega) (by omega) (by omega) (Nat.lt_of_le_of_lt (Nat.le_trans rd_lim_le hlim) hlimit) r5
             rw [r3, s3, hds] at hih
             obtain ⟨pL, sL⟩ := S.pdq S.swo d4 (mid + 1) b' (rd ltInt dk a' b' lim wb wp).lim true true (by omega) (by omega) r5
             go_wp2_with (go_at_call 62; refine hih.mono ?_; rintro e w8 ⟨rfl, hw8⟩)
             go_roundg (mid - a')
             case measure => omega
             case rel =>
              refine ⟨a', mid, (rd ltInt dk a' b' lim wb wp).lim, decide (b' - mid ≥ (b' - a') / 8), ap, pdq ltInt d4 (mid + 1) b' (rd ltInt dk a' b' lim wb wp).lim true true, rfl, rfl, rfl, ?_, rfl, by omega, by omega, Nat.le_refl _, by omega, Nat.le_trans rd_lim_le hlim, by rw [pL.1, r3, s3, hds], (r7 _ pL sL).1, hAt7.stepG hblk pL.1 hw8, ?_⟩
              ·exact congrArg Value.bool (eighth (by omega) (by omega))
              ·rw [← A.out, pdq_right h12 hl0 hp2 h87 (by rw [hx]; exact ⟨r1, r2⟩) (by rw [hx]; exact h4), hx]
           ·
            have h87' := h87
            simp only [Bool.and_eq_true, decide_eq_true_eq, Bool.not_eq_true'] at h87'
            obtain ⟨mid, d4, hx⟩ : ∃ mid d4, partitionEqual ltInt (rd ltInt dk a' b' lim wb wp).pi.1 a' b' (rd ltInt dk a' b' lim wb wp).pivot = (mid, d4) := ⟨(partitionEqual ltInt (rd ltInt dk a' b' lim wb wp).pi.1 a' b' (rd ltInt dk a' b' lim wb wp).pivot).1, (partitionEqual ltInt (rd ltInt dk a' b' lim wb wp).pi.1 a' b' (rd ltInt dk a' b' lim wb wp).pivot).2, rfl⟩
            obtain ⟨r1, r2, r3, r4, _⟩ := round_eq S.swo S.peq h87'.1 hpv.1 hpv.2 (show b' ≤ (rd ltInt dk a' b' lim wb wp).pi.1.size by omega) B3 h87'.2 hx
            have hc21 := C.peq blk off cap a' b' (rd ltInt dk a' b' lim wb wp).pivot (rd ltInt dk a' b' lim wb wp).pi.1 wc hH6 hpv.1 hpv.2 (by omega) (by omega)
            rw [s3, hds, hx] at hc21
            have X : Aside (partitionEqual ltInt (rd ltInt dk a' b' lim wb wp).pi.1 a' b' (rd ltInt dk a' b' lim wb wp).pivot = (mid, d4)) := hx
            clear hx
            go_wp2_with (go_at_call 84; refine hc21.mono ?_; rintro e w7 ⟨rfl, hw7⟩)
            go_roundg (b' - mid)
            case measure => omega
            case rel =>
             have hx := X.out
             exact ⟨mid, b', (rd ltInt dk a' b' lim wb wp).lim, wb, wp, d4, rfl, rfl, rfl, rfl, rfl, r2, hb', Nat.le_refl _, by omega, Nat.le_trans rd_lim_le hlim, by rw [r3, s3, hds], r4, hAt6.step hblk r3 hw7, by rw [← A.out, pdq_eq h12 hl0 hp2 h87 (by rw [hx]; exact ⟨r1, r2⟩), hx]⟩
end Go.Proofs.Ytjggmimaolddkaa
