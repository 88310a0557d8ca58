import Derived.Test.YtjggmimaolddkaaOrAL
import Derived.Sort.WalkC4
import Derived.Test.YtjggmimaolddkaaShelf
import Derived.Sort.Walk7
namespace Go.Proofs.Ytjggmimaolddkaa
open Go.RowKit Go.Sort
set_option linter.unusedVariables false
set_option maxHeartbeats 12800000 in
set_option maxRecDepth 100000 in
theorem srt_partition_u64 (blk off cap a b pivot : Nat) (d : Array Int) (w : World) (hH : Holds (Value.int .u64) w blk off d) (hap : a ≤ pivot) (hpb : pivot < b) (hb : b ≤ d.size) (hsz : d.size < 4611686018427387904) :
 Calls Try.prog 85 #[.slice (some ⟨blk, off, none⟩) d.size cap, .int .i64 a, .int .i64 b, .int .i64 pivot] w fun e w' =>
  e = .returned (.tuple #[.int .i64 (Sort.partition Sort.ltInt d a b pivot).1, .bool (Sort.partition Sort.ltInt d a b pivot).2.1]) ∧ ∃ n, w' = (putRow (Value.int .u64) w blk off (Sort.partition Sort.ltInt d a b pivot).2.2).drewN n := by
 have hla : a < d.size := by omega
 have hlp : pivot < d.size := by omega
 obtain ⟨G, hG⟩ : ∃ G : Nat → Int, ∀ j, G j = d[j]! := ⟨fun j => d[j]!, fun _ => rfl⟩
 have ca : w.cell? ⟨blk, off + a, none⟩ = some (.int .u64 (G a)) := by rw [hG]; exact (hH a hla).1
 have fa := (hH a hla).2
 have cp : w.cell? ⟨blk, off + pivot, none⟩ = some (.int .u64 (G pivot)) := by rw [hG]; exact (hH pivot hlp).1
 have fp := (hH pivot hlp).2
 obtain ⟨v', hy'⟩ := cell?_setCell_some (w := w) (p := ⟨blk, off + a, none⟩) (x := .int .u64 (G pivot)) (q := ⟨blk, off + pivot, none⟩) cp
 have hw : ((w.setCell ⟨blk, off + a, none⟩ (.int .u64 (G pivot))).setCell ⟨blk, off + pivot, none⟩ (.int .u64 (G a))).drew = (putRow (Value.int .u64) w blk off (Sort.swp d a pivot)).drewN 1 := by
  have e := swap_worldC (Value.int .u64) w blk off d 0 a pivot hla hlp
  rw [putRow_self _ w blk off d hH] at e
  rw [hG a, hG pivot]
  exact e
 have AH : Hid (Holds (Value.int .u64) w blk off d) := hH
 have HW0 := Hid.mk' hw
 clear hG hH hw
 go_enter Try.func85, Try.ntmps85
 go_wp2
 go_region
 go_wp2
 clear ca fa cp fp hy' v'
 have hw := HW0.out
 clear HW0
 generalize ((w.setCell ⟨blk, off + a, none⟩ (.int .u64 (G pivot))).setCell ⟨blk, off + pivot, none⟩ (.int .u64 (G a))).drew = W1 at hw ⊢
 obtain ⟨dk, hdk⟩ : ∃ dk, dk = Sort.swp d a pivot := ⟨_, rfl⟩
 obtain ⟨n, hn⟩ : ∃ n : Nat, n = 1 := ⟨_, rfl⟩
 rw [← hdk, ← hn] at hw
 clear hn
 have hs : dk.size = d.size := by rw [hdk, size_swp]
 have e1 : ((a : Int) + 1) = ((a + 1 : Nat) : Int) := by omega
 have e2 : ((b : Int) - 1) = ((b - 1 : Nat) : Int) := by omega
 rw [e1, e2]
 clear e1 e2
 obtain ⟨i, hi⟩ : ∃ i, i = a + 1 := ⟨_, rfl⟩
 obtain ⟨j, hj⟩ : ∃ j, j = b - 1 := ⟨_, rfl⟩
 rw [← hi, ← hj]
 have hai : a < i := by omega
 have hij : i ≤ j + 1 := by omega
 have hjb : j < b := by omega
 have HI := Hid.mk' hi
 have HJ := Hid.mk' hj
 have HDK := Hid.mk' hdk
 clear hi hj hdk
 have hHk : Holds (Value.int .u64) W1 blk off dk := by
  rw [hw]
  exact holds_putRow (Value.int .u64) w blk off d dk AH.out hs
 obtain ⟨Gk, hG⟩ : ∃ Gk : Nat → Int, ∀ t, Gk t = dk[t]! := ⟨fun t => dk[t]!, fun _ => rfl⟩
 have hc : ∀ t, t < d.size → W1.cell? ⟨blk, off + t, none⟩ = some (.int .u64 (Gk t)) := fun t ht => by rw [hG]; exact (hHk t (by omega)).1
 have hf : ∀ t, t < d.size → W1.frozen? ⟨blk, off + t, none⟩ = false := fun t ht => (hHk t (by omega)).2
 have AG : Hid (∀ t, Gk t = dk[t]!) := hG
 have AW : Hid (W1 = (putRow (Value.int .u64) w blk off dk).drewN n) := hw
 clear hG hw hHk
 go_loopw [10] (fun vi w1 => ∃ (i' n1 : Nat), vi = .int .i64 i' ∧ i ≤ i' ∧ i' ≤ j + 1 ∧ w1 = W1.drewN n1 ∧
  Hid (Sort.scanUp (fun x => Sort.ltInt x dk[a]!) dk j i' = Sort.scanUp (fun x => Sort.ltInt x dk[a]!) dk j i))
  (fun vi _ => j + 1 - (intOf vi).toNat)
 case atStart => exact ⟨i, 0, rfl, Nat.le_refl _, hij, rfl, rfl⟩
 case round =>
  obtain ⟨i', n1, rfl, hii, hij', hw1, hsc⟩ := hrel
  have hcw : ∀ t, t < d.size → wr.cell? ⟨blk, off + t, none⟩ = some (.int .u64 (Gk t)) := fun t ht => by rw [hw1]; exact hc t ht
  have HW1 : Hid (wr = W1.drewN n1) := hw1
  clear hw1
  by_cases hle : i' ≤ j
  ·go_wp2_with fail
   go_big_quiet (first | (go_at_call 83; refine Calls.quiet_of_same (srt_cmp_Less_u64 _ _ _)))
   go_wp2
   ·
    have ht : Sort.ltInt (Gk i') (Gk a) = true := by assumption
    go_roundw
    case rel => exact ⟨i' + 1, n1 + nq, by go_num, by omega, by omega, by rw [HW1.out, World.drewN_drewN], (scanUp_go (fun x => Sort.ltInt x dk[a]!) dk j i' hle (by rw [← AG.out a, ← AG.out i']; exact ht)).symm.trans hsc.out⟩
    case measure => simp [intOf]; omega
   ·
    have ht : Sort.ltInt (Gk i') (Gk a) = false := by assumption
    have hi2 : Hid (i' = Sort.scanUp (fun x => Sort.ltInt x dk[a]!) dk j i) := (scanUp_end (fun x => Sort.ltInt x dk[a]!) dk j i' (Or.inr (by rw [← AG.out a, ← AG.out i']; exact ht))).symm.trans hsc.out
    clear ht
    have hw2 : wr.drewN nq = W1.drewN (n1 + nq) := by rw [HW1.out, World.drewN_drewN]
    clear hcw HW1 hsc
    go_loopw [11] (fun vj w2 => ∃ (j' n2 : Nat), vj = .int .i64 j' ∧ j' ≤ j ∧ i' ≤ j' + 1 ∧ w2 = W1.drewN n2 ∧
     Hid (Sort.scanDown (fun x => !Sort.ltInt x dk[a]!) dk i' j' = Sort.scanDown (fun x => !Sort.ltInt x dk[a]!) dk i' j))
     (fun vj _ => (intOf vj).toNat)
    case atStart => exact ⟨j, n1 + nq, rfl, Nat.le_refl _, hij', hw2, rfl⟩
    case round =>
     clear hw2
     obtain ⟨j', n2, rfl, hjj, hij2, hw2, hsd⟩ := hrel
     have hcw : ∀ t, t < d.size → wr.cell? ⟨blk, off + t, none⟩ = some (.int .u64 (Gk t)) := fun t ht => by rw [hw2]; exact hc t ht
     have HW2 : Hid (wr = W1.drewN n2) := hw2
     clear hw2
     by_cases hle2 : i' ≤ j'
     ·go_wp2_with fail
      go_big_quiet (first | (go_at_call 83; refine Calls.quiet_of_same (srt_cmp_Less_u64 _ _ _)))
      go_wp2
      ·
       have ht : (!Sort.ltInt (Gk j') (Gk a)) = true := by assumption
       go_roundw
       case rel => exact ⟨j' - 1, n2 + nq, by go_num, by omega, by omega, by rw [HW2.out, World.drewN_drewN], (scanDown_go (fun x => !Sort.ltInt x dk[a]!) dk i' j' hle2 (by omega) (by rw [← AG.out a, ← AG.out j']; exact ht)).symm.trans hsd.out⟩
       case measure => simp [intOf]; omega
      ·
       have ht : (!Sort.ltInt (Gk j') (Gk a)) = false := by assumption
       have hj2 : Hid (j' = Sort.scanDown (fun x => !Sort.ltInt x dk[a]!) dk i' j) := (scanDown_end (fun x => !Sort.ltInt x dk[a]!) dk i' j' (Or.inr (by rw [← AG.out a, ← AG.out j']; exact ht))).symm.trans hsd.out
       clear hcw hsd ht
       have hw3 : wr.drewN nq = W1.drewN (n2 + nq) := by rw [HW2.out, World.drewN_drewN]
       generalize wr.drewN nq = W3 at hw3 ⊢
       have hc3 : ∀ t, t < d.size → W3.cell? ⟨blk, off + t, none⟩ = some (.int .u64 (Gk t)) := fun t ht => by rw [hw3]; exact hc t ht
       have hf3 : ∀ t, t < d.size → W3.frozen? ⟨blk, off + t, none⟩ = false := fun t ht => by rw [hw3]; exact hf t ht
       have HW3 : Hid (W3 = W1.drewN (n2 + nq)) := hw3
       clear hw3
       obtain ⟨v3, hy3⟩ := cell?_setCell_some (w := W3) (p := ⟨blk, off + i', none⟩) (x := .int .u64 (Gk j')) (q := ⟨blk, off + j', none⟩) (hc3 j' (by omega))
       have hlt3 := part_scans_lt Sort.ltInt a i j dk (by omega) hi2.out hj2.out hle2
       go_wp2
       go_region
       all_goals go_wp2
       obtain ⟨R, hR⟩ : ∃ R, R = Sort.partLoop Sort.ltInt a (i' + 1) (j' - 1) (Sort.swp dk i' j') := ⟨_, rfl⟩
       have HP : Hid (Sort.partition Sort.ltInt d a b pivot = (R.1, false, Sort.swp R.2 R.1 a)) := by rw [hR]; exact part_first_go Sort.ltInt d a b pivot HI.out HJ.out HDK.out hi2.out hj2.out (by omega)
       have hw0 : ((W3.setCell ⟨blk, off + i', none⟩ (.int .u64 (Gk j'))).setCell ⟨blk, off + j', none⟩ (.int .u64 (Gk i'))).drew = (putRow (Value.int .u64) w blk off (Sort.swp dk i' j')).drewN (n + (n2 + nq) + 1) := by
        rw [HW3.out, AW.out, World.drewN_drewN, AG.out i', AG.out j']
        exact swap_worldC (Value.int .u64) w blk off dk _ i' j' (by omega) (by omega)
       have HR : Hid (R = Sort.partLoop Sort.ltInt a (i' + 1) (j' - 1) (Sort.swp dk i' j')) := hR
       clear hR hc hf hc3 hf3 hy3 HW3 AW AG hi2 hj2
       go_loopw [10, 11] (fun vi vj wr => ∃ (i j n : Nat) (dk : Array Int), vi = .int .i64 i ∧ vj = .int .i64 j ∧ a < i ∧ i ≤ j + 1 ∧ j < b ∧ dk.size = d.size ∧ wr = (putRow (Value.int .u64) w blk off dk).drewN n ∧
        Sort.partLoop Sort.ltInt a i j dk = R)
        (fun vi vj _ => (intOf vj).toNat + 1 - (intOf vi).toNat)
       case atStart => exact ⟨i' + 1, j' - 1, _, Sort.swp dk i' j', by go_num, by go_num, by omega, by omega, by omega, by rw [size_swp]; exact hs, hw0, HR.out.symm⟩
       case round =>
        clear hw0 HR
        obtain ⟨i, j, n, dk, rfl, rfl, hai, hij, hjb, hs, hw, heq⟩ := hrel
        rename World => W1
        have AE : Hid (Sort.partLoop Sort.ltInt a i j dk = R) := heq
        clear heq
        have hHk : Holds (Value.int .u64) W1 blk off dk := by
         rw [hw]
         exact holds_putRow (Value.int .u64) w blk off d dk AH.out hs
        obtain ⟨Gk, hG⟩ : ∃ Gk : Nat → Int, ∀ t, Gk t = dk[t]! := ⟨fun t => dk[t]!, fun _ => rfl⟩
        have hc : ∀ t, t < d.size → W1.cell? ⟨blk, off + t, none⟩ = some (.int .u64 (Gk t)) := fun t ht => by rw [hG]; exact (hHk t (by omega)).1
        have hf : ∀ t, t < d.size → W1.frozen? ⟨blk, off + t, none⟩ = false := fun t ht => (hHk t (by omega)).2
        have AG : Hid (∀ t, Gk t = dk[t]!) := hG
        have AW : Hid (W1 = (putRow (Value.int .u64) w blk off dk).drewN n) := hw
        clear hG hw hHk
        go_wp2
        go_loopw [10] (fun vi w1 => ∃ (i' n1 : Nat), vi = .int .i64 i' ∧ i ≤ i' ∧ i' ≤ j + 1 ∧ w1 = W1.drewN n1 ∧
         Hid (Sort.scanUp (fun x => Sort.ltInt x dk[a]!) dk j i' = Sort.scanUp (fun x => Sort.ltInt x dk[a]!) dk j i))
         (fun vi _ => j + 1 - (intOf vi).toNat)
        case atStart => exact ⟨i, 0, rfl, Nat.le_refl _, hij, rfl, rfl⟩
        case round =>
         obtain ⟨i', n1, rfl, hii, hij', hw1, hsc⟩ := hrel
         have hcw : ∀ t, t < d.size → wr.cell? ⟨blk, off + t, none⟩ = some (.int .u64 (Gk t)) := fun t ht => by rw [hw1]; exact hc t ht
         have HW1 : Hid (wr = W1.drewN n1) := hw1
         clear hw1
         by_cases hle : i' ≤ j
         ·go_wp2_with fail
          go_big_quiet (first | (go_at_call 83; refine Calls.quiet_of_same (srt_cmp_Less_u64 _ _ _)))
          go_wp2
          ·
           have ht : Sort.ltInt (Gk i') (Gk a) = true := by assumption
           go_roundw
           case rel => exact ⟨i' + 1, n1 + nq, by go_num, by omega, by omega, by rw [HW1.out, World.drewN_drewN], (scanUp_go (fun x => Sort.ltInt x dk[a]!) dk j i' hle (by rw [← AG.out a, ← AG.out i']; exact ht)).symm.trans hsc.out⟩
           case measure => simp [intOf]; omega
          ·
           have ht : Sort.ltInt (Gk i') (Gk a) = false := by assumption
           have hi2 : Hid (i' = Sort.scanUp (fun x => Sort.ltInt x dk[a]!) dk j i) := (scanUp_end (fun x => Sort.ltInt x dk[a]!) dk j i' (Or.inr (by rw [← AG.out a, ← AG.out i']; exact ht))).symm.trans hsc.out
           clear ht
           have hw2 : wr.drewN nq = W1.drewN (n1 + nq) := by rw [HW1.out, World.drewN_drewN]
           clear hcw HW1 hsc
           go_loopw [11] (fun vj w2 => ∃ (j' n2 : Nat), vj = .int .i64 j' ∧ j' ≤ j ∧ i' ≤ j' + 1 ∧ w2 = W1.drewN n2 ∧
            Hid (Sort.scanDown (fun x => !Sort.ltInt x dk[a]!) dk i' j' = Sort.scanDown (fun x => !Sort.ltInt x dk[a]!) dk i' j))
            (fun vj _ => (intOf vj).toNat)
           case atStart => exact ⟨j, n1 + nq, rfl, Nat.le_refl _, hij', hw2, rfl⟩
           case round =>
            clear hw2
            obtain ⟨j', n2, rfl, hjj, hij2, hw2, hsd⟩ := hrel
            have hcw : ∀ t, t < d.size → wr.cell? ⟨blk, off + t, none⟩ = some (.int .u64 (Gk t)) := fun t ht => by rw [hw2]; exact hc t ht
            have HW2 : Hid (wr = W1.drewN n2) := hw2
            clear hw2
            by_cases hle2 : i' ≤ j'
            ·go_wp2_with fail
             go_big_quiet (first | (go_at_call 83; refine Calls.quiet_of_same (srt_cmp_Less_u64 _ _ _)))
             go_wp2
             ·
              have ht : (!Sort.ltInt (Gk j') (Gk a)) = true := by assumption
              go_roundw
              case rel => exact ⟨j' - 1, n2 + nq, by go_num, by omega, by omega, by rw [HW2.out, World.drewN_drewN], (scanDown_go (fun x => !Sort.ltInt x dk[a]!) dk i' j' hle2 (by omega) (by rw [← AG.out a, ← AG.out j']; exact ht)).symm.trans hsd.out⟩
              case measure => simp [intOf]; omega
             ·
              have ht : (!Sort.ltInt (Gk j') (Gk a)) = false := by assumption
              have hj2 : Hid (j' = Sort.scanDown (fun x => !Sort.ltInt x dk[a]!) dk i' j) := (scanDown_end (fun x => !Sort.ltInt x dk[a]!) dk i' j' (Or.inr (by rw [← AG.out a, ← AG.out j']; exact ht))).symm.trans hsd.out
              clear hcw hsd ht
              have hw3 : wr.drewN nq = W1.drewN (n2 + nq) := by rw [HW2.out, World.drewN_drewN]
              generalize wr.drewN nq = W3 at hw3 ⊢
              have hc3 : ∀ t, t < d.size → W3.cell? ⟨blk, off + t, none⟩ = some (.int .u64 (Gk t)) := fun t ht => by rw [hw3]; exact hc t ht
              have hf3 : ∀ t, t < d.size → W3.frozen? ⟨blk, off + t, none⟩ = false := fun t ht => by rw [hw3]; exact hf t ht
              have HW3 : Hid (W3 = W1.drewN (n2 + nq)) := hw3
              clear hw3
              obtain ⟨v3, hy3⟩ := cell?_setCell_some (w := W3) (p := ⟨blk, off + i', none⟩) (x := .int .u64 (Gk j')) (q := ⟨blk, off + j', none⟩) (hc3 j' (by omega))
              have hlt3 := part_scans_lt Sort.ltInt a i j dk (by omega) hi2.out hj2.out hle2
              go_wp2
              go_region
              all_goals go_wp2
              all_goals go_roundw
              case rel =>
               refine ⟨i' + 1, j' - 1, n + (n2 + nq) + 1, Sort.swp dk i' j', by go_num, by go_num, by omega, by omega, by omega, by rw [size_swp]; exact hs, ?_, ?_⟩
               ·rw [HW3.out, AW.out, World.drewN_drewN, AG.out i', AG.out j']
                exact swap_worldC (Value.int .u64) w blk off dk _ i' j' (by omega) (by omega)
               ·exact (part_go Sort.ltInt a i j dk hi2.out hj2.out (by omega)).symm.trans AE.out
              case measure => simp [intOf]; omega
            ·go_wp2_with fail
             go_big_quiet (first | (go_at_call 83; refine Calls.quiet_of_same (srt_cmp_Less_u64 _ _ _)))
             have hj2 : Hid (j' = Sort.scanDown (fun x => !Sort.ltInt x dk[a]!) dk i' j) := (scanDown_end (fun x => !Sort.ltInt x dk[a]!) dk i' j' (Or.inl hle2)).symm.trans hsd.out
             clear hcw hsd
             have hw3 : wr.drewN nq = W1.drewN (n2 + nq) := by rw [HW2.out, World.drewN_drewN]
             generalize wr.drewN nq = W3 at hw3 ⊢
             have hc3 : ∀ t, t < d.size → W3.cell? ⟨blk, off + t, none⟩ = some (.int .u64 (Gk t)) := fun t ht => by rw [hw3]; exact hc t ht
             have hf3 : ∀ t, t < d.size → W3.frozen? ⟨blk, off + t, none⟩ = false := fun t ht => by rw [hw3]; exact hf t ht
             have HW3 : Hid (W3 = W1.drewN (n2 + nq)) := hw3
             clear hw3
             obtain ⟨v3, hy3⟩ := cell?_setCell_some (w := W3) (p := ⟨blk, off + j', none⟩) (x := .int .u64 (Gk a)) (q := ⟨blk, off + a, none⟩) (hc3 a (by omega))
             have hlj : j' < d.size := by omega
             go_wp2
             go_region
             all_goals go_wp2
             all_goals go_ret2
             have e : Sort.partition Sort.ltInt d a b pivot = (j', false, Sort.swp dk j' a) := by
              have e0 := (part_break Sort.ltInt a i j dk hi2.out hj2.out (by omega)).symm.trans AE.out
              rw [HP.out, ← e0]
             refine ⟨?_, n + (n2 + nq) + 1, ?_⟩
             ·rw [e]; rfl
             ·rw [e, HW3.out, AW.out, World.drewN_drewN, AG.out a, AG.out j']
              exact swap_worldC (Value.int .u64) w blk off dk _ j' a (by omega) (by omega)
         ·go_wp2_with fail
          go_big_quiet (first | (go_at_call 83; refine Calls.quiet_of_same (srt_cmp_Less_u64 _ _ _)))
          go_wp2
          have hi2 : Hid (i' = Sort.scanUp (fun x => Sort.ltInt x dk[a]!) dk j i) := (scanUp_end (fun x => Sort.ltInt x dk[a]!) dk j i' (Or.inl hle)).symm.trans hsc.out
          have hw2 : wr.drewN nq = W1.drewN (n1 + nq) := by rw [HW1.out, World.drewN_drewN]
          clear hcw HW1 hsc
          go_loopw [11] (fun vj w2 => ∃ (j' n2 : Nat), vj = .int .i64 j' ∧ j' ≤ j ∧ i' ≤ j' + 1 ∧ w2 = W1.drewN n2 ∧
           Hid (Sort.scanDown (fun x => !Sort.ltInt x dk[a]!) dk i' j' = Sort.scanDown (fun x => !Sort.ltInt x dk[a]!) dk i' j))
           (fun vj _ => (intOf vj).toNat)
          case atStart => exact ⟨j, n1 + nq, rfl, Nat.le_refl _, hij', hw2, rfl⟩
          case round =>
           clear hw2
           obtain ⟨j', n2, rfl, hjj, hij2, hw2, hsd⟩ := hrel
           have hcw : ∀ t, t < d.size → wr.cell? ⟨blk, off + t, none⟩ = some (.int .u64 (Gk t)) := fun t ht => by rw [hw2]; exact hc t ht
           have HW2 : Hid (wr = W1.drewN n2) := hw2
           clear hw2
           by_cases hle2 : i' ≤ j'
           ·exfalso; omega
           ·go_wp2_with fail
            go_big_quiet (first | (go_at_call 83; refine Calls.quiet_of_same (srt_cmp_Less_u64 _ _ _)))
            have hj2 : Hid (j' = Sort.scanDown (fun x => !Sort.ltInt x dk[a]!) dk i' j) := (scanDown_end (fun x => !Sort.ltInt x dk[a]!) dk i' j' (Or.inl hle2)).symm.trans hsd.out
            clear hcw hsd
            have hw3 : wr.drewN nq = W1.drewN (n2 + nq) := by rw [HW2.out, World.drewN_drewN]
            generalize wr.drewN nq = W3 at hw3 ⊢
            have hc3 : ∀ t, t < d.size → W3.cell? ⟨blk, off + t, none⟩ = some (.int .u64 (Gk t)) := fun t ht => by rw [hw3]; exact hc t ht
            have hf3 : ∀ t, t < d.size → W3.frozen? ⟨blk, off + t, none⟩ = false := fun t ht => by rw [hw3]; exact hf t ht
            have HW3 : Hid (W3 = W1.drewN (n2 + nq)) := hw3
            clear hw3
            obtain ⟨v3, hy3⟩ := cell?_setCell_some (w := W3) (p := ⟨blk, off + j', none⟩) (x := .int .u64 (Gk a)) (q := ⟨blk, off + a, none⟩) (hc3 a (by omega))
            have hlj : j' < d.size := by omega
            go_wp2
            go_region
            all_goals go_wp2
            all_goals go_ret2
            have e : Sort.partition Sort.ltInt d a b pivot = (j', false, Sort.swp dk j' a) := by
             have e0 := (part_break Sort.ltInt a i j dk hi2.out hj2.out (by omega)).symm.trans AE.out
             rw [HP.out, ← e0]
            refine ⟨?_, n + (n2 + nq) + 1, ?_⟩
            ·rw [e]; rfl
            ·rw [e, HW3.out, AW.out, World.drewN_drewN, AG.out a, AG.out j']
             exact swap_worldC (Value.int .u64) w blk off dk _ j' a (by omega) (by omega)
     ·go_wp2_with fail
      go_big_quiet (first | (go_at_call 83; refine Calls.quiet_of_same (srt_cmp_Less_u64 _ _ _)))
      have hj2 : Hid (j' = Sort.scanDown (fun x => !Sort.ltInt x dk[a]!) dk i' j) := (scanDown_end (fun x => !Sort.ltInt x dk[a]!) dk i' j' (Or.inl hle2)).symm.trans hsd.out
      clear hcw hsd
      have hw3 : wr.drewN nq = W1.drewN (n2 + nq) := by rw [HW2.out, World.drewN_drewN]
      generalize wr.drewN nq = W3 at hw3 ⊢
      have hc3 : ∀ t, t < d.size → W3.cell? ⟨blk, off + t, none⟩ = some (.int .u64 (Gk t)) := fun t ht => by rw [hw3]; exact hc t ht
      have hf3 : ∀ t, t < d.size → W3.frozen? ⟨blk, off + t, none⟩ = false := fun t ht => by rw [hw3]; exact hf t ht
      have HW3 : Hid (W3 = W1.drewN (n2 + nq)) := hw3
      clear hw3
      obtain ⟨v3, hy3⟩ := cell?_setCell_some (w := W3) (p := ⟨blk, off + j', none⟩) (x := .int .u64 (Gk a)) (q := ⟨blk, off + a, none⟩) (hc3 a (by omega))
      have hlj : j' < d.size := by omega
      go_wp2
      go_region
      all_goals go_wp2
      all_goals go_ret2
      have e : Sort.partition Sort.ltInt d a b pivot = (j', true, Sort.swp dk j' a) := part_first_break Sort.ltInt d a b pivot HI.out HJ.out HDK.out hi2.out hj2.out (by omega)
      refine ⟨?_, n + (n2 + nq) + 1, ?_⟩
      ·rw [e]; rfl
      ·rw [e, HW3.out, AW.out, World.drewN_drewN, AG.out a, AG.out j']
       exact swap_worldC (Value.int .u64) w blk off dk _ j' a (by omega) (by omega)
  ·go_wp2_with fail
   go_big_quiet (first | (go_at_call 83; refine Calls.quiet_of_same (srt_cmp_Less_u64 _ _ _)))
   go_wp2
   have hi2 : Hid (i' = Sort.scanUp (fun x => Sort.ltInt x dk[a]!) dk j i) := (scanUp_end (fun x => Sort.ltInt x dk[a]!) dk j i' (Or.inl hle)).symm.trans hsc.out
   have hw2 : wr.drewN nq = W1.drewN (n1 + nq) := by rw [HW1.out, World.drewN_drewN]
   clear hcw HW1 hsc
   go_loopw [11] (fun vj w2 => ∃ (j' n2 : Nat), vj = .int .i64 j' ∧ j' ≤ j ∧ i' ≤ j' + 1 ∧ w2 = W1.drewN n2 ∧
    Hid (Sort.scanDown (fun x => !Sort.ltInt x dk[a]!) dk i' j' = Sort.scanDown (fun x => !Sort.ltInt x dk[a]!) dk i' j))
    (fun vj _ => (intOf vj).toNat)
   case atStart => exact ⟨j, n1 + nq, rfl, Nat.le_refl _, hij', hw2, rfl⟩
   case round =>
    clear hw2
    obtain ⟨j', n2, rfl, hjj, hij2, hw2, hsd⟩ := hrel
    have hcw : ∀ t, t < d.size → wr.cell? ⟨blk, off + t, none⟩ = some (.int .u64 (Gk t)) := fun t ht => by rw [hw2]; exact hc t ht
    have HW2 : Hid (wr = W1.drewN n2) := hw2
    clear hw2
    by_cases hle2 : i' ≤ j'
    ·exfalso; omega
    ·go_wp2_with fail
     go_big_quiet (first | (go_at_call 83; refine Calls.quiet_of_same (srt_cmp_Less_u64 _ _ _)))
     have hj2 : Hid (j' = Sort.scanDown (fun x => !Sort.ltInt x dk[a]!) dk i' j) := (scanDown_end (fun x => !Sort.ltInt x dk[a]!) dk i' j' (Or.inl hle2)).symm.trans hsd.out
     clear hcw hsd
     have hw3 : wr.drewN nq = W1.drewN (n2 + nq) := by rw [HW2.out, World.drewN_drewN]
     generalize wr.drewN nq = W3 at hw3 ⊢
     have hc3 : ∀ t, t < d.size → W3.cell? ⟨blk, off + t, none⟩ = some (.int .u64 (Gk t)) := fun t ht => by rw [hw3]; exact hc t ht
     have hf3 : ∀ t, t < d.size → W3.frozen? ⟨blk, off + t, none⟩ = false := fun t ht => by rw [hw3]; exact hf t ht
     have HW3 : Hid (W3 = W1.drewN (n2 + nq)) := hw3
     clear hw3
     obtain ⟨v3, hy3⟩ := cell?_setCell_some (w := W3) (p := ⟨blk, off + j', none⟩) (x := .int .u64 (Gk a)) (q := ⟨blk, off + a, none⟩) (hc3 a (by omega))
     have hlj : j' < d.size := by omega
     go_wp2
     go_region
     all_goals go_wp2
     all_goals go_ret2
     have e : Sort.partition Sort.ltInt d a b pivot = (j', true, Sort.swp dk j' a) := part_first_break Sort.ltInt d a b pivot HI.out HJ.out HDK.out hi2.out hj2.out (by omega)
     refine ⟨?_, n + (n2 + nq) + 1, ?_⟩
     ·rw [e]; rfl
     ·rw [e, HW3.out, AW.out, World.drewN_drewN, AG.out a, AG.out j']
      exact swap_worldC (Value.int .u64) w blk off dk _ j' a (by omega) (by omega)
theorem srt_partitionOrdered_u64 (blk off cap a b pivot : Nat) (d : Array Int) (w : World) (hH : Holds (Value.int .u64) w blk off d) (hap : a ≤ pivot) (hpb : pivot < b) (hb : b ≤ d.size) (hsz : d.size < 4611686018427387904) :
 Calls Try.prog 85 #[.slice (some ⟨blk, off, none⟩) d.size cap, .int .i64 a, .int .i64 b, .int .i64 pivot] w fun e w' =>
  e = .returned (.tuple #[.int .i64 (Sort.partition Sort.ltInt d a b pivot).1, .bool (Sort.partition Sort.ltInt d a b pivot).2.1]) ∧ ∃ n, w' = putRow (Value.int .u64) (Sort.ahead w n) blk off (Sort.partition Sort.ltInt d a b pivot).2.2 :=
 (srt_partition_u64 blk off cap a b pivot d w hH hap hpb hb hsz).mono fun _ _ ⟨he, n, hw⟩ => ⟨he, n, hw⟩
end Go.Proofs.Ytjggmimaolddkaa
namespace Go.Proofs.Ytjggmimaolddkaa
open Go.RowKit Go.Sort
set_option linter.unusedVariables false
theorem srt_xorshift_Next (rb ro X : Nat) (hX : X < 18446744073709551616) (w : World) (hc : w.cell? ⟨rb, ro, none⟩ = some (.int .u64 X)) (hf : w.frozen? ⟨rb, ro, none⟩ = false) :
 Calls Try.prog 95 #[.pointer (some ⟨rb, ro, none⟩)] w fun e w' => e = .returned (.int .u64 (xorNextN X : Nat)) ∧ w' = (w.setCell ⟨rb, ro, none⟩ (.int .u64 (xorNextN X : Nat))).drewN 3 := by
 obtain ⟨A, hA⟩ : ∃ A : Nat, A = X ^^^ (X * 8192 % 18446744073709551616) := ⟨_, rfl⟩
 obtain ⟨B, hB⟩ : ∃ B : Nat, B = A ^^^ (A / 128) := ⟨_, rfl⟩
 obtain ⟨C, hC⟩ : ∃ C : Nat, C = B ^^^ (B * 131072 % 18446744073709551616) := ⟨_, rfl⟩
 have lA : A < 18446744073709551616 := by rw [hA]; exact Nat.xor_lt_two_pow (n := 64) (by omega) (by omega)
 have lB : B < 18446744073709551616 := by rw [hB]; exact Nat.xor_lt_two_pow (n := 64) (by omega) (by omega)
 have e1 : bits .xor .u64 (X : Int) (IntKind.u64.wrap ((X : Int) * 8192)) = (A : Int) := by
  rw [IntKind.wrap_u64, show ((X : Int) * 8192 % 18446744073709551616) = ((X * 8192 % 18446744073709551616 : Nat) : Int) by omega, bits_xor_u64_nat _ _ hX (by omega), hA]
 have e2 : bits .xor .u64 (A : Int) ((A : Int) / 128) = (B : Int) := by
  rw [show ((A : Int) / 128) = ((A / 128 : Nat) : Int) by omega, bits_xor_u64_nat _ _ lA (by omega), hB]
 have e3 : bits .xor .u64 (B : Int) (IntKind.u64.wrap ((B : Int) * 131072)) = (C : Int) := by
  rw [IntKind.wrap_u64, show ((B : Int) * 131072 % 18446744073709551616) = ((B * 131072 % 18446744073709551616 : Nat) : Int) by omega, bits_xor_u64_nat _ _ lB (by omega), hC]
 have hv : xorNextN X = C := by unfold xorNextN; simp only []; rw [← hA, ← hB, ← hC]
 rw [hv]
 clear hA hB hC hv
 have hss : ∀ v v', (w.setCell ⟨rb, ro, none⟩ v).setCell ⟨rb, ro, none⟩ v' = w.setCell ⟨rb, ro, none⟩ v' := setCell_setCell w rb ro
 go_enter Try.func95, Try.ntmps95
 go_wp2
 go_region
 all_goals go_wp2
 all_goals go_region
 all_goals go_wp2
 all_goals go_region
 all_goals go_wp2
 go_ret
 exact ⟨rfl, rfl⟩
theorem srt_nextPowerOfTwo (n : Nat) (hn : n < 4611686018427387904) (w : World) :
 Calls Try.prog 94 #[.int .i64 n] w fun e w' => e = .returned (.int .u64 ((1 <<< bitsLen n : Nat) : Int)) ∧ w' = w := by
 have hLen : ∀ w, Calls Try.prog 63 #[.int .u64 (n : Int)] w fun e w' => e = .returned (.int .i64 (bitsLen n : Nat)) ∧ w' = w := fun w => by
  have h := Try.bits_Len (n : Int) w (by omega) (by omega)
  rwa [Int.toNat_natCast, bitLen_eq _ (by omega)] at h
 have hk : bitsLen n ≤ 62 := (bitsLen_le_iff n 62).2 (by omega)
 have hp := wrap_two_pow (bitsLen n) hk
 go_enter Try.func94, Try.ntmps94
 go_wp2_with (first | (go_at_call 63; refine (hLen _).mono ?_; rintro e w' ⟨rfl, rfl⟩))
 go_ret
 exact ⟨rfl, rfl⟩
set_option maxHeartbeats 1000000 in
set_option maxRecDepth 100000 in
theorem srt_breakPatterns_u64_go (blk off cap a L : Nat) (d : Array Int) (w : World) (hH : Holds (Value.int .u64) w blk off d) (hblk : blk < w.heap.size) (hb : a + L ≤ d.size) (hsz : d.size < 4611686018427387904) (h8 : 8 ≤ L) :
 Calls Try.prog 79 #[.slice (some ⟨blk, off, none⟩) d.size cap, .int .i64 a, .int .i64 ((a + L : Nat) : Int)] w fun e w' =>
  e = .returned (.tuple #[]) ∧ ∃ n os, w' = grow (putRow (Value.int .u64) (Sort.ahead w n) blk off (breakPatterns d a (a + L))) os := by
 rw [breakPatterns_eq d a L h8]
 obtain ⟨M, hM⟩ : ∃ M : Nat, M = 1 <<< bitsLen L := ⟨_, rfl⟩
 have hM1 : 1 ≤ M := by rw [hM, Nat.one_shiftLeft]; exact Nat.two_pow_pos _
 have hM2 : M ≤ 2 * L := by rw [hM, Nat.one_shiftLeft]; exact two_pow_bitsLen_le (by omega)
 have hNP : ∀ w, Calls Try.prog 94 #[.int .i64 (L : Int)] w fun e w' => e = .returned (.int .u64 (M : Int)) ∧ w' = w := by rw [hM]; exact fun w => srt_nextPowerOfTwo L (by omega) w
 rw [← hM]
 clear hM
 have HH : Hid (Holds (Value.int .u64) w blk off d) := hH
 have HST : Hid (w.alloc (Obj.cells #[.int .u64 (L : Int)] 156) = grow (putRow (Value.int .u64) (Sort.ahead w 0) blk off d) #[Obj.cells #[.int .u64 ((UInt64.ofNat L).toNat : Int)] 156]) := by
  show _ = _
  rw [show Sort.ahead w 0 = w from rfl, putRow_self _ _ _ _ _ hH, alloc_eq_grow, show (UInt64.ofNat L).toNat = L from by simp; omega]
 clear hH
 go_enter Try.func79, Try.ntmps79
 go_wp2_with (first | (go_at_call 94; rw [show ((a : Int) + (L : Int) - (a : Int)) = (L : Int) by omega]; refine (hNP _).mono ?_; rintro e w' ⟨rfl, rfl⟩))
 go_loopw [9] (fun vi wr => ∃ (t n : Nat) (r : UInt64) (dk : Array Int), vi = .int .i64 ((a + L / 4 * 2 - 1 + t : Nat) : Int) ∧ t ≤ 3 ∧ dk.size = d.size ∧
  wr = grow (putRow (Value.int .u64) (Sort.ahead w n) blk off dk) #[Obj.cells #[.int .u64 (r.toNat : Int)] 156] ∧
  bpRest a L M (a + L / 4 * 2 - 1) (3 - t) t (r, dk) = bpRest a L M (a + L / 4 * 2 - 1) 3 0 (UInt64.ofNat L, d)) (fun vi _ => a + L / 4 * 2 + 3 - (intOf vi).toNat)
 case atStart => exact ⟨0, 0, UInt64.ofNat L, d, by congr 1; omega, by omega, rfl, HST.out, rfl⟩
 case round =>
  obtain ⟨t, n, r, dk, rfl, ht, hsk, hw, hR⟩ := hrel
  obtain ⟨R, hRr⟩ : ∃ R : Nat, R = r.toNat := ⟨_, rfl⟩
  have lR : R < 18446744073709551616 := by rw [hRr]; exact r.toNat_lt
  obtain ⟨R', hR'⟩ : ∃ R' : Nat, R' = xorNextN R := ⟨_, rfl⟩
  have lR' : R' < 18446744073709551616 := by rw [hR']; exact xorNextN_lt R lR
  obtain ⟨O, hO⟩ : ∃ O : Nat, O = R' &&& (M - 1) := ⟨_, rfl⟩
  have lO : O ≤ M - 1 := by rw [hO]; exact Nat.and_le_right
  have eAnd : bits .and .u64 (R' : Int) ((M : Int) - 1) = (O : Int) := by
   rw [show ((M : Int) - 1) = ((M - 1 : Nat) : Int) by omega, bits_and_u64_nat _ _ lR' (by omega), hO]
  obtain ⟨G, hG⟩ : ∃ G : Nat → Int, ∀ x, G x = dk[x]! := ⟨fun x => dk[x]!, fun _ => rfl⟩
  have hz : (putRow (Value.int .u64) (Sort.ahead w n) blk off dk).heap.size = w.heap.size := by simp
  have hcw : ∀ x, x < d.size → wr.cell? ⟨blk, off + x, none⟩ = some (.int .u64 (G x)) := fun x hx => by
   rw [hw, cell?_grow _ _ _ (by rw [hz]; exact hblk), hG]; exact cell?_putRow _ _ _ _ d dk (holds_ahead _ _ _ _ _ _ HH.out) hsk x (by omega)
  have hfw : ∀ x, x < d.size → wr.frozen? ⟨blk, off + x, none⟩ = false := fun x hx => by
   rw [hw, frozen?_grow _ _ _ (by rw [hz]; exact hblk), frozen?_putRow]; exact ((holds_ahead _ _ n _ _ _ HH.out) x hx).2
  have hcB : wr.cell? ⟨w.heap.size, 0, none⟩ = some (.int .u64 (R : Int)) := by rw [hw, hRr, ← hz]; exact grow_one_cell _ _ _
  have hfB : wr.frozen? ⟨w.heap.size, 0, none⟩ = false := by rw [hw, ← hz]; exact grow_one_frozen _ _ _
  have hNext : Calls Try.prog 95 #[.pointer (some ⟨w.heap.size, 0, none⟩)] wr fun e w' => e = .returned (.int .u64 (R' : Int)) ∧ w' = (wr.setCell ⟨w.heap.size, 0, none⟩ (.int .u64 (R' : Int))).drewN 3 := by
   rw [hR']; exact srt_xorshift_Next _ _ R lR wr hcB hfB
  have HW : Hid (wr = grow (putRow (Value.int .u64) (Sort.ahead w n) blk off dk) #[Obj.cells #[.int .u64 (r.toNat : Int)] 156]) := hw
  have HG : Hid (∀ x, G x = dk[x]!) := hG
  have HR : Hid (bpRest a L M (a + L / 4 * 2 - 1) (3 - t) t (r, dk) = bpRest a L M (a + L / 4 * 2 - 1) 3 0 (UInt64.ofNat L, d)) := hR
  have HN : Hid (R' = (xorNext r).toNat ∧ O = (xorNext r).toNat &&& (M - 1)) := by
   have e : R' = (xorNext r).toNat := by rw [hR', hRr, xorNext_toNat]
   exact ⟨e, by rw [hO, e]⟩
  clear hw hG hR hRr hR' hO
  go_wp2_with (first | (go_at_call 95; refine hNext.mono ?_; rintro e w' ⟨rfl, rfl⟩))
  ·
   have hLO : L ≤ O := by omega
   by_cases hEq : a + L / 4 * 2 - 1 + t = a + (O - L)
   all_goals
    go_region
    all_goals go_wp2
    go_roundw
    case rel =>
     refine ⟨t + 1, n + 4, xorNext r, swp dk (a + L / 4 * 2 - 1 + t) (a + (O - L)), by first | rfl | (congr 1 <;> omega), by omega, by rw [size_swp]; exact hsk, ?_, ?_⟩
     ·(try rw [hEq])
      rw [HW.out, HN.out.1]
      simp only [HG.out]
      exact step_world (Value.int .u64) w n 4 blk off dk _ _ hblk (by omega) (by omega) _ _ _
     ·rw [← HR.out, bp_step a L M _ t r dk (O - L) (by omega) (by rw [← HN.out.2, if_pos (by omega)])]
    case measure => simp [intOf]; omega
  ·have hLO : ¬ L ≤ O := by omega
   by_cases hEq : a + L / 4 * 2 - 1 + t = a + O
   all_goals
    go_region
    all_goals go_wp2
    go_roundw
    case rel =>
     refine ⟨t + 1, n + 4, xorNext r, swp dk (a + L / 4 * 2 - 1 + t) (a + O), by first | rfl | (congr 1 <;> omega), by omega, by rw [size_swp]; exact hsk, ?_, ?_⟩
     ·(try rw [hEq])
      rw [HW.out, HN.out.1]
      simp only [HG.out]
      exact step_world (Value.int .u64) w n 4 blk off dk _ _ hblk (by omega) (by omega) _ _ _
     ·rw [← HR.out, bp_step a L M _ t r dk O (by omega) (by rw [← HN.out.2, if_neg (by omega)])]
    case measure => simp [intOf]; omega
  ·
   obtain rfl : t = 3 := by omega
   go_end0
   exact ⟨rfl, n, _, by rw [← HR.out, HW.out]; rfl⟩
theorem srt_breakPatterns_u64 (blk off cap a b : Nat) (d : Array Int) (w : World) (hH : Holds (Value.int .u64) w blk off d) (hblk : blk < w.heap.size) (hab : a ≤ b) (hb : b ≤ d.size) (hsz : d.size < 4611686018427387904) :
 Calls Try.prog 79 #[.slice (some ⟨blk, off, none⟩) d.size cap, .int .i64 a, .int .i64 b] w fun e w' =>
  e = .returned (.tuple #[]) ∧ ∃ n os, w' = grow (putRow (Value.int .u64) (Sort.ahead w n) blk off (breakPatterns d a b)) os := by
 obtain ⟨L, rfl⟩ : ∃ L, b = a + L := ⟨b - a, by omega⟩
 by_cases h8 : 8 ≤ L
 ·exact srt_breakPatterns_u64_go blk off cap a L d w hH hblk hb hsz h8
 ·have hv : breakPatterns d a (a + L) = d := by unfold breakPatterns; simp only [Nat.add_sub_cancel_left]; rw [if_neg h8]
  rw [hv]
  have HST : Hid (w = grow (putRow (Value.int .u64) (Sort.ahead w 0) blk off d) #[]) := by
   show _ = _
   rw [grow_empty, show Sort.ahead w 0 = w from rfl, putRow_self _ _ _ _ _ hH]
  clear hH
  go_enter Try.func79, Try.ntmps79
  go_wp2
  go_end0
  exact ⟨rfl, 0, #[], HST.out⟩
end Go.Proofs.Ytjggmimaolddkaa
