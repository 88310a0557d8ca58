import Derived.Test.YtiiaingepbkikaaGreatDoorWoAV
import Derived.Test.YtiiaingepbkikaaGreatDoorWoAH
namespace Go.Proofs.YtiiaingepbkikaaGreatDoor
open Go.RowKit
set_option linter.unusedVariables false
set_option linter.unusedSimpArgs false
set_option maxRecDepth 100000 in
set_option maxHeartbeats 8000000 in
theorem rt_new (o : PO) (vs : Array Value) (a b : Int) (L B : Nat) (w : World) (hq : RT L B w vs o) (hL : L ≤ w.heap.size) (hB : B ≤ w.heap.size) (hok : TOk 100 o) (ha : U64' a) (hbb : U64' b) :
 Calls Tryz.prog 26 #[.agg vs, .string ⟨#[110, 101, 119]⟩, .int .u64 a, .int .u64 b] w (DoesRT L B w (tP 0 a b o)) := by
 obtain ⟨is, cap0, A0, n0, c0, hvs, his, hn0⟩ := hq.cells (by rintro cap l rfl; exact hok.2.2.1)
 subst hvs
 have HQ := Lib.hid hq
 have HIs := Lib.hid his
 obtain ⟨W1, hW1⟩ : ∃ W1, ((w.alloc (.cells #[.bool is, .int .u64 cap0, .slice A0 n0 c0] 40)).alloc (.cells #[.bool false, .int .u64 0, .slice none 0 0] 40)).alloc (.cells #[.int .i64 0, .int .u64 0] 47) = W1 := ⟨_, rfl⟩
 have htb := b3_new w #[.bool is, .int .u64 cap0, .slice A0 n0 c0] #[.bool false, .int .u64 0, .slice none 0 0] #[.int .i64 0, .int .u64 0] 40
 simp only [hW1] at htb
 have HH := Lib.hid htb
 have HW1 := Lib.hid hW1
 clear htb hW1 hq his
 go_enter Tryz.func26, Tryz.ntmps26
 go_upto_region 1 with fail
 rw [HW1.out]
 clear HW1
 have k0 := (c3 HH.out.h3).1
 have k1 := (c3 HH.out.h3).2.1
 have k2 := (c3 HH.out.h3).2.2.1
 have hwr : IntKind.u64.wrap (n0 : Int) = n0 := by rw [IntKind.wrap_u64]; omega
 rcases o with _ | ⟨cap, l⟩
 ·obtain ⟨rfl⟩ : is = false := HIs.out
  have qc := c3 HH.out.h6; have e0 := qc.1; have e1 := qc.2.1; have e2 := qc.2.2.1; have f0 := qc.2.2.2.1; have f1 := qc.2.2.2.2.1; have f2 := qc.2.2.2.2.2.1; have kf := qc.2.2.2.2.2.2; clear qc
  have qc := c2 HH.out.h7; have d0 := qc.1; have d1 := qc.2.1; have h0 := qc.2.2.1; have h1 := qc.2.2.2.1; have kg := qc.2.2.2.2; clear qc
  obtain ⟨V, hV⟩ : ∃ V, (((((W1.setCell ⟨(w.heap.size + 1), 0, none⟩ (.bool true)).setCell ⟨(w.heap.size + 1), 1, none⟩ (.int .u64 a)).setCell ⟨(w.heap.size + 1), 2, none⟩ (.slice none 0 0)).setCell ⟨(w.heap.size + 2), 0, none⟩ (.int .i64 0)).setCell ⟨(w.heap.size + 2), 1, none⟩ (.int .u64 0)) = V := ⟨_, rfl⟩
  have HHn : Hid (B3 w V 40 #[.bool false, .int .u64 cap0, .slice A0 n0 c0] #[.bool true, .int .u64 a, .slice none 0 0] #[.int .i64 0, .int .u64 0]) := by show B3 _ _ _ _ _ _; rw [← hV]; exact (HH.out.set6 _ _ _).set7 _ _
  have HBn := Lib.hid HHn.out.hb
  have HQn : Hid (RTo L B w.heap.size V #[.bool true, .int .u64 a, .slice none 0 0] (some (a, []))) := by show RTo _ _ _ _ _ _; exact ⟨none, 0, 0, rfl, ⟨⟨Nat.le_refl _, fun _ => rfl⟩, fun b o z e => by cases e⟩, .inl (Rd.nil _ _ _ _)⟩
  have HV := Lib.hid hV
  clear hV
  go_wp2_with ((with_reducible show bodyPost _ _ _ _ _ _); rw [HV.out]; refine bodyPost_ret (results_cc rfl _ V (w.heap.size + 1) (w.heap.size + 2) 40 47 #[.bool true, .int .u64 a, .slice none 0 0] #[.int .i64 0, .int .u64 0] _ _ (by rfl) HHn.out.h6 Tryz.underlying40 rfl (by kernel_rfl) (by rfl) HHn.out.h7 Tryz.underlying47 rfl (by kernel_rfl)) rfl ?_; exact ⟨_, _, rfl, HQn.out, ⟨_, _, rfl⟩, HBn.out⟩)
 ·obtain ⟨rfl⟩ : is = true := HIs.out
  obtain ⟨A9, n9, c9, e9, hs9, hr9⟩ := HQ.out
  simp only [Array.mk.injEq, List.cons.injEq, Value.int.injEq, Value.slice.injEq, and_true, true_and] at e9
  obtain ⟨rfl, rfl, rfl, rfl⟩ := e9
  have HR := Lib.hid (hr9.more hB)
  have HRB := Lib.hid hr9
  have HS9 := Lib.hid hs9
  have HLl := Lib.hid hr9.pairLen
  clear hr9
  go_upto_region 3 with fail
  clear k0 k1 k2
  obtain ⟨V, hV⟩ : ∃ V, W1.drew = V := ⟨_, rfl⟩
  refine wp_region_held_drew (S := (fun w' => w'.rangeAt w.heap.size 0 (#[.bool true, .int .u64 cap0, .slice A0 n0 c0] : Array Value).toList)) (by kernel_rfl) ?_ (fun hHeld => ?_)
  ·exact HH.out.h3.rng
  refine loadA 0 #[.bool true, .int .u64 cap0, .slice A0 n0 c0] Tryz.underlying40 rfl (by kernel_rfl) ?_ ?_
  ·(intro w hSw; exact hSw)
  try simp only [Act.put, pS]
  have HH : Hid (B3 w V 40 #[.bool true, .int .u64 cap0, .slice A0 n0 c0] #[.bool false, .int .u64 0, .slice none 0 0] #[.int .i64 0, .int .u64 0]) := by show B3 _ _ _ _ _ _; rw [← hV]; exact HH.out.drew
  rw [hV] at hHeld ⊢
  clear hV
  refine comeA 1 fun K hK => ?_
  go_simp
  refine (rgives22 4 _).mono ?_
  rintro e V1 ⟨rfl, hb⟩
  have HH := Lib.hid (HH.out.below hb)
  clear hb
  go_simp
  refine hK.out _ _ ?_ (fun hHeld => ?_)
  ·exact HH.out.h3.rng
  clear hK K
  try simp only [Act.put, pS]
  refine comeA 2 fun K hK => ?_
  have qc := c3 HH.out.h6; have e0 := qc.1; have e1 := qc.2.1; have e2 := qc.2.2.1; have f0 := qc.2.2.2.1; have f1 := qc.2.2.2.2.1; have f2 := qc.2.2.2.2.2.1; have kf := qc.2.2.2.2.2.2; clear qc
  go_simp
  clear e0 f0 e1 f1 e2 f2 kf
  obtain ⟨V8, hX⟩ : ∃ X, (((V1.setCell ⟨(w.heap.size + 1), 0, none⟩ (.bool true)).setCell ⟨(w.heap.size + 1), 1, none⟩ (.int .u64 cap0)).setCell ⟨(w.heap.size + 1), 2, none⟩ (.slice A0 n0 c0)) = X := ⟨_, rfl⟩
  have HH : Hid (B3 w V8 40 #[.bool true, .int .u64 cap0, .slice A0 n0 c0] #[.bool true, .int .u64 cap0, .slice A0 n0 c0] #[.int .i64 0, .int .u64 0]) := by show B3 _ _ _ _ _ _; rw [← hX]; exact HH.out.set6 _ _ _
  rw [hX]
  clear hX
  refine hK.out _ _ ?_ (fun hHeld => ?_)
  ·exact HH.out.h3.rng
  clear hK K
  try simp only [Act.put, pS]
  refine comeA 3 fun K hK => ?_
  have qc := c2 HH.out.h7; have e0 := qc.1; have e1 := qc.2.1; have f0 := qc.2.2.1; have f1 := qc.2.2.2.1; have kf := qc.2.2.2.2; clear qc
  go_simp
  clear e0 f0 e1 f1 kf
  obtain ⟨V9, hX⟩ : ∃ X, ((V8.setCell ⟨(w.heap.size + 2), 0, none⟩ (.int .i64 40)).setCell ⟨(w.heap.size + 2), 1, none⟩ (.int .u64 4)) = X := ⟨_, rfl⟩
  have HH : Hid (B3 w V9 40 #[.bool true, .int .u64 cap0, .slice A0 n0 c0] #[.bool true, .int .u64 cap0, .slice A0 n0 c0] #[.int .i64 40, .int .u64 4]) := by show B3 _ _ _ _ _ _; rw [← hX]; exact HH.out.set7 _ _
  rw [hX]
  clear hX
  refine hK.out _ _ ?_ (fun hHeld => ?_)
  ·exact HH.out.h3.rng
  clear hK K
  try simp only [Act.put, pS]
  refine wpAnyH_done (by kernel_rfl) ?_ _
  try simp only [Act.put, pS]
  have HQ3 := Lib.hid (RTo.of w.heap.size (HQ.out.below HH.out.hb hB))
  go_wp2_with ((with_reducible show bodyPost _ _ _ _ _ _); refine bodyPost_ret (results_cc rfl _ V9 (w.heap.size + 1) (w.heap.size + 2) 40 47 #[.bool true, .int .u64 cap0, .slice A0 n0 c0] #[.int .i64 40, .int .u64 4] _ _ (by rfl) HH.out.h6 Tryz.underlying40 rfl (by kernel_rfl) (by rfl) HH.out.h7 Tryz.underlying47 rfl (by kernel_rfl)) rfl ?_; exact ⟨_, _, rfl, HQ3.out, ⟨_, _, rfl⟩, HH.out.hb⟩)
set_option maxRecDepth 100000 in
set_option maxHeartbeats 8000000 in
theorem rt_size (o : PO) (vs : Array Value) (a b : Int) (L B : Nat) (w : World) (hq : RT L B w vs o) (hL : L ≤ w.heap.size) (hB : B ≤ w.heap.size) (hok : TOk 100 o) (ha : U64' a) (hbb : U64' b) :
 Calls Tryz.prog 26 #[.agg vs, .string ⟨#[115, 105, 122, 101]⟩, .int .u64 a, .int .u64 b] w (DoesRT L B w (tP 4 a b o)) := by
 obtain ⟨is, cap0, A0, n0, c0, hvs, his, hn0⟩ := hq.cells (by rintro cap l rfl; exact hok.2.2.1)
 subst hvs
 have HQ := Lib.hid hq
 have HIs := Lib.hid his
 obtain ⟨W1, hW1⟩ : ∃ W1, ((w.alloc (.cells #[.bool is, .int .u64 cap0, .slice A0 n0 c0] 40)).alloc (.cells #[.bool false, .int .u64 0, .slice none 0 0] 40)).alloc (.cells #[.int .i64 0, .int .u64 0] 47) = W1 := ⟨_, rfl⟩
 have htb := b3_new w #[.bool is, .int .u64 cap0, .slice A0 n0 c0] #[.bool false, .int .u64 0, .slice none 0 0] #[.int .i64 0, .int .u64 0] 40
 simp only [hW1] at htb
 have HH := Lib.hid htb
 have HW1 := Lib.hid hW1
 clear htb hW1 hq his
 go_enter Tryz.func26, Tryz.ntmps26
 go_upto_region 1 with fail
 rw [HW1.out]
 clear HW1
 have k0 := (c3 HH.out.h3).1
 have k1 := (c3 HH.out.h3).2.1
 have k2 := (c3 HH.out.h3).2.2.1
 have hwr : IntKind.u64.wrap (n0 : Int) = n0 := by rw [IntKind.wrap_u64]; omega
 rcases o with _ | ⟨cap, l⟩
 ·obtain ⟨rfl⟩ : is = false := HIs.out
  go_upto_region 9 with fail
  clear k0 k1 k2
  obtain ⟨V, hV⟩ : ∃ V, W1.drew = V := ⟨_, rfl⟩
  refine wp_region_held_drew (S := (fun w' => w'.rangeAt w.heap.size 0 (#[.bool false, .int .u64 cap0, .slice A0 n0 c0] : Array Value).toList)) (by kernel_rfl) ?_ (fun hHeld => ?_)
  ·exact HH.out.h3.rng
  refine loadA 0 #[.bool false, .int .u64 cap0, .slice A0 n0 c0] Tryz.underlying40 rfl (by kernel_rfl) ?_ ?_
  ·(intro w hSw; exact hSw)
  try simp only [Act.put, pS]
  have HH : Hid (B3 w V 40 #[.bool false, .int .u64 cap0, .slice A0 n0 c0] #[.bool false, .int .u64 0, .slice none 0 0] #[.int .i64 0, .int .u64 0]) := by show B3 _ _ _ _ _ _; rw [← hV]; exact HH.out.drew
  rw [hV] at hHeld ⊢
  clear hV
  refine comeA 1 fun K hK => ?_
  go_simp
  refine (rgives22 3 _).mono ?_
  rintro e V1 ⟨rfl, hb⟩
  have HH := Lib.hid (HH.out.below hb)
  clear hb
  go_simp
  refine hK.out _ _ ?_ (fun hHeld => ?_)
  ·exact HH.out.h3.rng
  clear hK K
  try simp only [Act.put, pS]
  refine comeA 2 fun K hK => ?_
  have qc := c3 HH.out.h6; have e0 := qc.1; have e1 := qc.2.1; have e2 := qc.2.2.1; have f0 := qc.2.2.2.1; have f1 := qc.2.2.2.2.1; have f2 := qc.2.2.2.2.2.1; have kf := qc.2.2.2.2.2.2; clear qc
  go_simp
  clear e0 f0 e1 f1 e2 f2 kf
  obtain ⟨V8, hX⟩ : ∃ X, (((V1.setCell ⟨(w.heap.size + 1), 0, none⟩ (.bool false)).setCell ⟨(w.heap.size + 1), 1, none⟩ (.int .u64 cap0)).setCell ⟨(w.heap.size + 1), 2, none⟩ (.slice A0 n0 c0)) = X := ⟨_, rfl⟩
  have HH : Hid (B3 w V8 40 #[.bool false, .int .u64 cap0, .slice A0 n0 c0] #[.bool false, .int .u64 cap0, .slice A0 n0 c0] #[.int .i64 0, .int .u64 0]) := by show B3 _ _ _ _ _ _; rw [← hX]; exact HH.out.set6 _ _ _
  rw [hX]
  clear hX
  refine hK.out _ _ ?_ (fun hHeld => ?_)
  ·exact HH.out.h3.rng
  clear hK K
  try simp only [Act.put, pS]
  refine comeA 3 fun K hK => ?_
  have qc := c2 HH.out.h7; have e0 := qc.1; have e1 := qc.2.1; have f0 := qc.2.2.1; have f1 := qc.2.2.2.1; have kf := qc.2.2.2.2; clear qc
  go_simp
  clear e0 f0 e1 f1 kf
  obtain ⟨V9, hX⟩ : ∃ X, ((V8.setCell ⟨(w.heap.size + 2), 0, none⟩ (.int .i64 40)).setCell ⟨(w.heap.size + 2), 1, none⟩ (.int .u64 3)) = X := ⟨_, rfl⟩
  have HH : Hid (B3 w V9 40 #[.bool false, .int .u64 cap0, .slice A0 n0 c0] #[.bool false, .int .u64 cap0, .slice A0 n0 c0] #[.int .i64 40, .int .u64 3]) := by show B3 _ _ _ _ _ _; rw [← hX]; exact HH.out.set7 _ _
  rw [hX]
  clear hX
  refine hK.out _ _ ?_ (fun hHeld => ?_)
  ·exact HH.out.h3.rng
  clear hK K
  try simp only [Act.put, pS]
  refine wpAnyH_done (by kernel_rfl) ?_ _
  try simp only [Act.put, pS]
  have HQ3 := Lib.hid (RTo.of w.heap.size (HQ.out.below HH.out.hb hB))
  go_wp2_with ((with_reducible show bodyPost _ _ _ _ _ _); refine bodyPost_ret (results_cc rfl _ V9 (w.heap.size + 1) (w.heap.size + 2) 40 47 #[.bool false, .int .u64 cap0, .slice A0 n0 c0] #[.int .i64 40, .int .u64 3] _ _ (by rfl) HH.out.h6 Tryz.underlying40 rfl (by kernel_rfl) (by rfl) HH.out.h7 Tryz.underlying47 rfl (by kernel_rfl)) rfl ?_; exact ⟨_, _, rfl, HQ3.out, ⟨_, _, rfl⟩, HH.out.hb⟩)
 ·obtain ⟨rfl⟩ : is = true := HIs.out
  obtain ⟨A9, n9, c9, e9, hs9, hr9⟩ := HQ.out
  simp only [Array.mk.injEq, List.cons.injEq, Value.int.injEq, Value.slice.injEq, and_true, true_and] at e9
  obtain ⟨rfl, rfl, rfl, rfl⟩ := e9
  have HR := Lib.hid (hr9.more hB)
  have HRB := Lib.hid hr9
  have HS9 := Lib.hid hs9
  have HLl := Lib.hid hr9.pairLen
  clear hr9
  have HRW : Hid (RdP W1 W1.heap.size A0 n0 l) := (HR.out.below HH.out.hb).more HH.out.hb.size
  go_upto_region 11 with (
   go_at_call 54
   refine (rfind_any l A0 n0 c0 a _ HRW.out (by omega)).mono ?_
   rintro e wh ⟨⟨z, rfl, hz⟩, hwh⟩
   rw [hwh]
   clear hwh
   have HZ := Lib.hid hz
   clear hz)
  have qc := c3 HH.out.h6; have e0 := qc.1; have e1 := qc.2.1; have e2 := qc.2.2.1; have f0 := qc.2.2.2.1; have f1 := qc.2.2.2.2.1; have f2 := qc.2.2.2.2.2.1; have kf := qc.2.2.2.2.2.2; clear qc
  have qc := c2 HH.out.h7; have d0 := qc.1; have d1 := qc.2.1; have h0 := qc.2.2.1; have h1 := qc.2.2.2.1; have kg := qc.2.2.2.2; clear qc
  obtain ⟨V, hV⟩ : ∃ V, (((((W1.setCell ⟨(w.heap.size + 1), 0, none⟩ (.bool true)).setCell ⟨(w.heap.size + 1), 1, none⟩ (.int .u64 cap0)).setCell ⟨(w.heap.size + 1), 2, none⟩ (.slice A0 n0 c0)).setCell ⟨(w.heap.size + 2), 0, none⟩ (.int .i64 0)).setCell ⟨(w.heap.size + 2), 1, none⟩ (.int .u64 (n0 : Int))) = V := ⟨_, rfl⟩
  have HHn : Hid (B3 w V 40 #[.bool true, .int .u64 cap0, .slice A0 n0 c0] #[.bool true, .int .u64 cap0, .slice A0 n0 c0] #[.int .i64 0, .int .u64 (n0 : Int)]) := by show B3 _ _ _ _ _ _; rw [← hV]; exact (HH.out.set6 _ _ _).set7 _ _
  have HBn := Lib.hid HHn.out.hb
  have HQn : Hid (RTo L B w.heap.size V #[.bool true, .int .u64 cap0, .slice A0 n0 c0] (some (cap0, l))) := by show RTo _ _ _ _ _ _; exact RTo.of _ (HQ.out.below HBn.out hB)
  have HV := Lib.hid hV
  clear hV
  go_wp2_with ((with_reducible show bodyPost _ _ _ _ _ _); rw [HV.out]; refine bodyPost_ret (results_cc rfl _ V (w.heap.size + 1) (w.heap.size + 2) 40 47 #[.bool true, .int .u64 cap0, .slice A0 n0 c0] #[.int .i64 0, .int .u64 (n0 : Int)] _ _ (by rfl) HHn.out.h6 Tryz.underlying40 rfl (by kernel_rfl) (by rfl) HHn.out.h7 Tryz.underlying47 rfl (by kernel_rfl)) rfl ?_; exact ⟨_, _, rfl, HQn.out, ⟨_, _, rfl⟩, HBn.out⟩)
set_option maxRecDepth 100000 in
set_option maxHeartbeats 8000000 in
theorem rt_drop (o : PO) (vs : Array Value) (a b : Int) (L B : Nat) (w : World) (hq : RT L B w vs o) (hL : L ≤ w.heap.size) (hB : B ≤ w.heap.size) (hok : TOk 100 o) (ha : U64' a) (hbb : U64' b) :
 Calls Tryz.prog 26 #[.agg vs, .string ⟨#[100, 114, 111, 112]⟩, .int .u64 a, .int .u64 b] w (DoesRT L B w (tP 5 a b o)) := by
 obtain ⟨is, cap0, A0, n0, c0, hvs, his, hn0⟩ := hq.cells (by rintro cap l rfl; exact hok.2.2.1)
 subst hvs
 have HQ := Lib.hid hq
 have HIs := Lib.hid his
 obtain ⟨W1, hW1⟩ : ∃ W1, ((w.alloc (.cells #[.bool is, .int .u64 cap0, .slice A0 n0 c0] 40)).alloc (.cells #[.bool false, .int .u64 0, .slice none 0 0] 40)).alloc (.cells #[.int .i64 0, .int .u64 0] 47) = W1 := ⟨_, rfl⟩
 have htb := b3_new w #[.bool is, .int .u64 cap0, .slice A0 n0 c0] #[.bool false, .int .u64 0, .slice none 0 0] #[.int .i64 0, .int .u64 0] 40
 simp only [hW1] at htb
 have HH := Lib.hid htb
 have HW1 := Lib.hid hW1
 clear htb hW1 hq his
 go_enter Tryz.func26, Tryz.ntmps26
 go_upto_region 1 with fail
 rw [HW1.out]
 clear HW1
 have k0 := (c3 HH.out.h3).1
 have k1 := (c3 HH.out.h3).2.1
 have k2 := (c3 HH.out.h3).2.2.1
 have hwr : IntKind.u64.wrap (n0 : Int) = n0 := by rw [IntKind.wrap_u64]; omega
 rcases o with _ | ⟨cap, l⟩
 ·obtain ⟨rfl⟩ : is = false := HIs.out
  go_upto_region 9 with fail
  clear k0 k1 k2
  obtain ⟨V, hV⟩ : ∃ V, W1.drew = V := ⟨_, rfl⟩
  refine wp_region_held_drew (S := (fun w' => w'.rangeAt w.heap.size 0 (#[.bool false, .int .u64 cap0, .slice A0 n0 c0] : Array Value).toList)) (by kernel_rfl) ?_ (fun hHeld => ?_)
  ·exact HH.out.h3.rng
  refine loadA 0 #[.bool false, .int .u64 cap0, .slice A0 n0 c0] Tryz.underlying40 rfl (by kernel_rfl) ?_ ?_
  ·(intro w hSw; exact hSw)
  try simp only [Act.put, pS]
  have HH : Hid (B3 w V 40 #[.bool false, .int .u64 cap0, .slice A0 n0 c0] #[.bool false, .int .u64 0, .slice none 0 0] #[.int .i64 0, .int .u64 0]) := by show B3 _ _ _ _ _ _; rw [← hV]; exact HH.out.drew
  rw [hV] at hHeld ⊢
  clear hV
  refine comeA 1 fun K hK => ?_
  go_simp
  refine (rgives22 3 _).mono ?_
  rintro e V1 ⟨rfl, hb⟩
  have HH := Lib.hid (HH.out.below hb)
  clear hb
  go_simp
  refine hK.out _ _ ?_ (fun hHeld => ?_)
  ·exact HH.out.h3.rng
  clear hK K
  try simp only [Act.put, pS]
  refine comeA 2 fun K hK => ?_
  have qc := c3 HH.out.h6; have e0 := qc.1; have e1 := qc.2.1; have e2 := qc.2.2.1; have f0 := qc.2.2.2.1; have f1 := qc.2.2.2.2.1; have f2 := qc.2.2.2.2.2.1; have kf := qc.2.2.2.2.2.2; clear qc
  go_simp
  clear e0 f0 e1 f1 e2 f2 kf
  obtain ⟨V8, hX⟩ : ∃ X, (((V1.setCell ⟨(w.heap.size + 1), 0, none⟩ (.bool false)).setCell ⟨(w.heap.size + 1), 1, none⟩ (.int .u64 cap0)).setCell ⟨(w.heap.size + 1), 2, none⟩ (.slice A0 n0 c0)) = X := ⟨_, rfl⟩
  have HH : Hid (B3 w V8 40 #[.bool false, .int .u64 cap0, .slice A0 n0 c0] #[.bool false, .int .u64 cap0, .slice A0 n0 c0] #[.int .i64 0, .int .u64 0]) := by show B3 _ _ _ _ _ _; rw [← hX]; exact HH.out.set6 _ _ _
  rw [hX]
  clear hX
  refine hK.out _ _ ?_ (fun hHeld => ?_)
  ·exact HH.out.h3.rng
  clear hK K
  try simp only [Act.put, pS]
  refine comeA 3 fun K hK => ?_
  have qc := c2 HH.out.h7; have e0 := qc.1; have e1 := qc.2.1; have f0 := qc.2.2.1; have f1 := qc.2.2.2.1; have kf := qc.2.2.2.2; clear qc
  go_simp
  clear e0 f0 e1 f1 kf
  obtain ⟨V9, hX⟩ : ∃ X, ((V8.setCell ⟨(w.heap.size + 2), 0, none⟩ (.int .i64 40)).setCell ⟨(w.heap.size + 2), 1, none⟩ (.int .u64 3)) = X := ⟨_, rfl⟩
  have HH : Hid (B3 w V9 40 #[.bool false, .int .u64 cap0, .slice A0 n0 c0] #[.bool false, .int .u64 cap0, .slice A0 n0 c0] #[.int .i64 40, .int .u64 3]) := by show B3 _ _ _ _ _ _; rw [← hX]; exact HH.out.set7 _ _
  rw [hX]
  clear hX
  refine hK.out _ _ ?_ (fun hHeld => ?_)
  ·exact HH.out.h3.rng
  clear hK K
  try simp only [Act.put, pS]
  refine wpAnyH_done (by kernel_rfl) ?_ _
  try simp only [Act.put, pS]
  have HQ3 := Lib.hid (RTo.of w.heap.size (HQ.out.below HH.out.hb hB))
  go_wp2_with ((with_reducible show bodyPost _ _ _ _ _ _); refine bodyPost_ret (results_cc rfl _ V9 (w.heap.size + 1) (w.heap.size + 2) 40 47 #[.bool false, .int .u64 cap0, .slice A0 n0 c0] #[.int .i64 40, .int .u64 3] _ _ (by rfl) HH.out.h6 Tryz.underlying40 rfl (by kernel_rfl) (by rfl) HH.out.h7 Tryz.underlying47 rfl (by kernel_rfl)) rfl ?_; exact ⟨_, _, rfl, HQ3.out, ⟨_, _, rfl⟩, HH.out.hb⟩)
 ·obtain ⟨rfl⟩ : is = true := HIs.out
  obtain ⟨A9, n9, c9, e9, hs9, hr9⟩ := HQ.out
  simp only [Array.mk.injEq, List.cons.injEq, Value.int.injEq, Value.slice.injEq, and_true, true_and] at e9
  obtain ⟨rfl, rfl, rfl, rfl⟩ := e9
  have HR := Lib.hid (hr9.more hB)
  have HRB := Lib.hid hr9
  have HS9 := Lib.hid hs9
  have HLl := Lib.hid hr9.pairLen
  clear hr9
  have HRW : Hid (RdP W1 W1.heap.size A0 n0 l) := (HR.out.below HH.out.hb).more HH.out.hb.size
  go_upto_region 11 with (
   go_at_call 54
   refine (rfind_any l A0 n0 c0 a _ HRW.out (by omega)).mono ?_
   rintro e wh ⟨⟨z, rfl, hz⟩, hwh⟩
   rw [hwh]
   clear hwh
   have HZ := Lib.hid hz
   clear hz)
  by_cases hn : 0 < n0
  ·have hn1 : decide ((n0 : Int) > 0) = true := decide_eq_true (by omega)
   have hl0 : l ≠ [] := by intro e; rw [e] at HLl; have := HLl.out; simp at this; omega
   have HE : Hid (tP 5 a b (some (cap0, l)) = some (cap0, l)) := by show _ = _; simp [tP, tS, hl0]
   go_upto_region 14 with fail
   clear k0 k1 k2
   obtain ⟨V, hV⟩ : ∃ V, W1.drew = V := ⟨_, rfl⟩
   refine wp_region_held_drew (S := (fun w' => w'.rangeAt w.heap.size 0 (#[.bool true, .int .u64 cap0, .slice A0 n0 c0] : Array Value).toList)) (by kernel_rfl) ?_ (fun hHeld => ?_)
   ·exact HH.out.h3.rng
   refine loadA 0 #[.bool true, .int .u64 cap0, .slice A0 n0 c0] Tryz.underlying40 rfl (by kernel_rfl) ?_ ?_
   ·(intro w hSw; exact hSw)
   try simp only [Act.put, pS]
   have HH : Hid (B3 w V 40 #[.bool true, .int .u64 cap0, .slice A0 n0 c0] #[.bool false, .int .u64 0, .slice none 0 0] #[.int .i64 0, .int .u64 0]) := by show B3 _ _ _ _ _ _; rw [← hV]; exact HH.out.drew
   rw [hV] at hHeld ⊢
   clear hV
   refine comeA 1 fun K hK => ?_
   go_simp
   refine (rgives22 5 _).mono ?_
   rintro e V1 ⟨rfl, hb⟩
   have HH := Lib.hid (HH.out.below hb)
   clear hb
   go_simp
   refine hK.out _ _ ?_ (fun hHeld => ?_)
   ·exact HH.out.h3.rng
   clear hK K
   try simp only [Act.put, pS]
   refine comeA 2 fun K hK => ?_
   have qc := c3 HH.out.h6; have e0 := qc.1; have e1 := qc.2.1; have e2 := qc.2.2.1; have f0 := qc.2.2.2.1; have f1 := qc.2.2.2.2.1; have f2 := qc.2.2.2.2.2.1; have kf := qc.2.2.2.2.2.2; clear qc
   go_simp
   clear e0 f0 e1 f1 e2 f2 kf
   obtain ⟨V8, hX⟩ : ∃ X, (((V1.setCell ⟨(w.heap.size + 1), 0, none⟩ (.bool true)).setCell ⟨(w.heap.size + 1), 1, none⟩ (.int .u64 cap0)).setCell ⟨(w.heap.size + 1), 2, none⟩ (.slice A0 n0 c0)) = X := ⟨_, rfl⟩
   have HH : Hid (B3 w V8 40 #[.bool true, .int .u64 cap0, .slice A0 n0 c0] #[.bool true, .int .u64 cap0, .slice A0 n0 c0] #[.int .i64 0, .int .u64 0]) := by show B3 _ _ _ _ _ _; rw [← hX]; exact HH.out.set6 _ _ _
   rw [hX]
   clear hX
   refine hK.out _ _ ?_ (fun hHeld => ?_)
   ·exact HH.out.h3.rng
   clear hK K
   try simp only [Act.put, pS]
   refine comeA 3 fun K hK => ?_
   have qc := c2 HH.out.h7; have e0 := qc.1; have e1 := qc.2.1; have f0 := qc.2.2.1; have f1 := qc.2.2.2.1; have kf := qc.2.2.2.2; clear qc
   go_simp
   clear e0 f0 e1 f1 kf
   obtain ⟨V9, hX⟩ : ∃ X, ((V8.setCell ⟨(w.heap.size + 2), 0, none⟩ (.int .i64 40)).setCell ⟨(w.heap.size + 2), 1, none⟩ (.int .u64 5)) = X := ⟨_, rfl⟩
   have HH : Hid (B3 w V9 40 #[.bool true, .int .u64 cap0, .slice A0 n0 c0] #[.bool true, .int .u64 cap0, .slice A0 n0 c0] #[.int .i64 40, .int .u64 5]) := by show B3 _ _ _ _ _ _; rw [← hX]; exact HH.out.set7 _ _
   rw [hX]
   clear hX
   refine hK.out _ _ ?_ (fun hHeld => ?_)
   ·exact HH.out.h3.rng
   clear hK K
   try simp only [Act.put, pS]
   refine wpAnyH_done (by kernel_rfl) ?_ _
   try simp only [Act.put, pS]
   have HQ3 := Lib.hid (RTo.of w.heap.size (HQ.out.below HH.out.hb hB))
   go_wp2_with ((with_reducible show bodyPost _ _ _ _ _ _); refine bodyPost_ret (results_cc rfl _ V9 (w.heap.size + 1) (w.heap.size + 2) 40 47 #[.bool true, .int .u64 cap0, .slice A0 n0 c0] #[.int .i64 40, .int .u64 5] _ _ (by rfl) HH.out.h6 Tryz.underlying40 rfl (by kernel_rfl) (by rfl) HH.out.h7 Tryz.underlying47 rfl (by kernel_rfl)) rfl ?_; exact ⟨_, _, rfl, (by rw [HE.out]; exact HQ3.out), ⟨_, _, rfl⟩, HH.out.hb⟩)
  ·have hn1 : decide ((n0 : Int) > 0) = false := decide_eq_false (by omega)
   obtain ⟨rfl⟩ : l = [] := by have := HLl.out; exact List.eq_nil_of_length_eq_zero (by omega)
   have qc := c3 HH.out.h6; have e0 := qc.1; have e1 := qc.2.1; have e2 := qc.2.2.1; have f0 := qc.2.2.2.1; have f1 := qc.2.2.2.2.1; have f2 := qc.2.2.2.2.2.1; have kf := qc.2.2.2.2.2.2; clear qc
   have qc := c2 HH.out.h7; have d0 := qc.1; have d1 := qc.2.1; have h0 := qc.2.2.1; have h1 := qc.2.2.2.1; have kg := qc.2.2.2.2; clear qc
   obtain ⟨V, hV⟩ : ∃ V, (((((W1.setCell ⟨(w.heap.size + 1), 0, none⟩ (.bool false)).setCell ⟨(w.heap.size + 1), 1, none⟩ (.int .u64 0)).setCell ⟨(w.heap.size + 1), 2, none⟩ (.slice none 0 0)).setCell ⟨(w.heap.size + 2), 0, none⟩ (.int .i64 0)).setCell ⟨(w.heap.size + 2), 1, none⟩ (.int .u64 0)) = V := ⟨_, rfl⟩
   have HHn : Hid (B3 w V 40 #[.bool true, .int .u64 cap0, .slice A0 n0 c0] #[.bool false, .int .u64 0, .slice none 0 0] #[.int .i64 0, .int .u64 0]) := by show B3 _ _ _ _ _ _; rw [← hV]; exact (HH.out.set6 _ _ _).set7 _ _
   have HBn := Lib.hid HHn.out.hb
   have HQn : Hid (RTo L B w.heap.size V #[.bool false, .int .u64 0, .slice none 0 0] (none)) := by show RTo _ _ _ _ _ _; exact rfl
   have HV := Lib.hid hV
   clear hV
   go_wp2_with ((with_reducible show bodyPost _ _ _ _ _ _); rw [HV.out]; refine bodyPost_ret (results_cc rfl _ V (w.heap.size + 1) (w.heap.size + 2) 40 47 #[.bool false, .int .u64 0, .slice none 0 0] #[.int .i64 0, .int .u64 0] _ _ (by rfl) HHn.out.h6 Tryz.underlying40 rfl (by kernel_rfl) (by rfl) HHn.out.h7 Tryz.underlying47 rfl (by kernel_rfl)) rfl ?_; exact ⟨_, _, rfl, HQn.out, ⟨_, _, rfl⟩, HBn.out⟩)
set_option maxRecDepth 100000 in
set_option maxHeartbeats 8000000 in
theorem rt_get (o : PO) (vs : Array Value) (a b : Int) (L B : Nat) (w : World) (hq : RT L B w vs o) (hL : L ≤ w.heap.size) (hB : B ≤ w.heap.size) (hok : TOk 100 o) (ha : U64' a) (hbb : U64' b) :
 Calls Tryz.prog 26 #[.agg vs, .string ⟨#[103, 101, 116]⟩, .int .u64 a, .int .u64 b] w (DoesRT L B w (tP 2 a b o)) := by
 obtain ⟨is, cap0, A0, n0, c0, hvs, his, hn0⟩ := hq.cells (by rintro cap l rfl; exact hok.2.2.1)
 subst hvs
 have HQ := Lib.hid hq
 have HIs := Lib.hid his
 obtain ⟨W1, hW1⟩ : ∃ W1, ((w.alloc (.cells #[.bool is, .int .u64 cap0, .slice A0 n0 c0] 40)).alloc (.cells #[.bool false, .int .u64 0, .slice none 0 0] 40)).alloc (.cells #[.int .i64 0, .int .u64 0] 47) = W1 := ⟨_, rfl⟩
 have htb := b3_new w #[.bool is, .int .u64 cap0, .slice A0 n0 c0] #[.bool false, .int .u64 0, .slice none 0 0] #[.int .i64 0, .int .u64 0] 40
 simp only [hW1] at htb
 have HH := Lib.hid htb
 have HW1 := Lib.hid hW1
 clear htb hW1 hq his
 go_enter Tryz.func26, Tryz.ntmps26
 go_upto_region 1 with fail
 rw [HW1.out]
 clear HW1
 have k0 := (c3 HH.out.h3).1
 have k1 := (c3 HH.out.h3).2.1
 have k2 := (c3 HH.out.h3).2.2.1
 have hwr : IntKind.u64.wrap (n0 : Int) = n0 := by rw [IntKind.wrap_u64]; omega
 rcases o with _ | ⟨cap, l⟩
 ·obtain ⟨rfl⟩ : is = false := HIs.out
  go_upto_region 9 with fail
  clear k0 k1 k2
  obtain ⟨V, hV⟩ : ∃ V, W1.drew = V := ⟨_, rfl⟩
  refine wp_region_held_drew (S := (fun w' => w'.rangeAt w.heap.size 0 (#[.bool false, .int .u64 cap0, .slice A0 n0 c0] : Array Value).toList)) (by kernel_rfl) ?_ (fun hHeld => ?_)
  ·exact HH.out.h3.rng
  refine loadA 0 #[.bool false, .int .u64 cap0, .slice A0 n0 c0] Tryz.underlying40 rfl (by kernel_rfl) ?_ ?_
  ·(intro w hSw; exact hSw)
  try simp only [Act.put, pS]
  have HH : Hid (B3 w V 40 #[.bool false, .int .u64 cap0, .slice A0 n0 c0] #[.bool false, .int .u64 0, .slice none 0 0] #[.int .i64 0, .int .u64 0]) := by show B3 _ _ _ _ _ _; rw [← hV]; exact HH.out.drew
  rw [hV] at hHeld ⊢
  clear hV
  refine comeA 1 fun K hK => ?_
  go_simp
  refine (rgives22 3 _).mono ?_
  rintro e V1 ⟨rfl, hb⟩
  have HH := Lib.hid (HH.out.below hb)
  clear hb
  go_simp
  refine hK.out _ _ ?_ (fun hHeld => ?_)
  ·exact HH.out.h3.rng
  clear hK K
  try simp only [Act.put, pS]
  refine comeA 2 fun K hK => ?_
  have qc := c3 HH.out.h6; have e0 := qc.1; have e1 := qc.2.1; have e2 := qc.2.2.1; have f0 := qc.2.2.2.1; have f1 := qc.2.2.2.2.1; have f2 := qc.2.2.2.2.2.1; have kf := qc.2.2.2.2.2.2; clear qc
  go_simp
  clear e0 f0 e1 f1 e2 f2 kf
  obtain ⟨V8, hX⟩ : ∃ X, (((V1.setCell ⟨(w.heap.size + 1), 0, none⟩ (.bool false)).setCell ⟨(w.heap.size + 1), 1, none⟩ (.int .u64 cap0)).setCell ⟨(w.heap.size + 1), 2, none⟩ (.slice A0 n0 c0)) = X := ⟨_, rfl⟩
  have HH : Hid (B3 w V8 40 #[.bool false, .int .u64 cap0, .slice A0 n0 c0] #[.bool false, .int .u64 cap0, .slice A0 n0 c0] #[.int .i64 0, .int .u64 0]) := by show B3 _ _ _ _ _ _; rw [← hX]; exact HH.out.set6 _ _ _
  rw [hX]
  clear hX
  refine hK.out _ _ ?_ (fun hHeld => ?_)
  ·exact HH.out.h3.rng
  clear hK K
  try simp only [Act.put, pS]
  refine comeA 3 fun K hK => ?_
  have qc := c2 HH.out.h7; have e0 := qc.1; have e1 := qc.2.1; have f0 := qc.2.2.1; have f1 := qc.2.2.2.1; have kf := qc.2.2.2.2; clear qc
  go_simp
  clear e0 f0 e1 f1 kf
  obtain ⟨V9, hX⟩ : ∃ X, ((V8.setCell ⟨(w.heap.size + 2), 0, none⟩ (.int .i64 40)).setCell ⟨(w.heap.size + 2), 1, none⟩ (.int .u64 3)) = X := ⟨_, rfl⟩
  have HH : Hid (B3 w V9 40 #[.bool false, .int .u64 cap0, .slice A0 n0 c0] #[.bool false, .int .u64 cap0, .slice A0 n0 c0] #[.int .i64 40, .int .u64 3]) := by show B3 _ _ _ _ _ _; rw [← hX]; exact HH.out.set7 _ _
  rw [hX]
  clear hX
  refine hK.out _ _ ?_ (fun hHeld => ?_)
  ·exact HH.out.h3.rng
  clear hK K
  try simp only [Act.put, pS]
  refine wpAnyH_done (by kernel_rfl) ?_ _
  try simp only [Act.put, pS]
  have HQ3 := Lib.hid (RTo.of w.heap.size (HQ.out.below HH.out.hb hB))
  go_wp2_with ((with_reducible show bodyPost _ _ _ _ _ _); refine bodyPost_ret (results_cc rfl _ V9 (w.heap.size + 1) (w.heap.size + 2) 40 47 #[.bool false, .int .u64 cap0, .slice A0 n0 c0] #[.int .i64 40, .int .u64 3] _ _ (by rfl) HH.out.h6 Tryz.underlying40 rfl (by kernel_rfl) (by rfl) HH.out.h7 Tryz.underlying47 rfl (by kernel_rfl)) rfl ?_; exact ⟨_, _, rfl, HQ3.out, ⟨_, _, rfl⟩, HH.out.hb⟩)
 ·obtain ⟨rfl⟩ : is = true := HIs.out
  obtain ⟨A9, n9, c9, e9, hs9, hr9⟩ := HQ.out
  simp only [Array.mk.injEq, List.cons.injEq, Value.int.injEq, Value.slice.injEq, and_true, true_and] at e9
  obtain ⟨rfl, rfl, rfl, rfl⟩ := e9
  have HR := Lib.hid (hr9.more hB)
  have HRB := Lib.hid hr9
  have HS9 := Lib.hid hs9
  have HLl := Lib.hid hr9.pairLen
  clear hr9
  have HRW : Hid (RdP W1 W1.heap.size A0 n0 l) := (HR.out.below HH.out.hb).more HH.out.hb.size
  go_upto_region 11 with (
   go_at_call 54
   refine (rfind_any l A0 n0 c0 a _ HRW.out (by omega)).mono ?_
   rintro e wh ⟨⟨z, rfl, hz⟩, hwh⟩
   rw [hwh]
   clear hwh
   have HZ := Lib.hid hz
   clear hz)
  rcases HZ.out with ⟨rfl, hin⟩ | ⟨k, v, rfl, hkv⟩
  ·go_upto_region 18 with fail
   clear k0 k1 k2
   obtain ⟨V, hV⟩ : ∃ V, W1.drew = V := ⟨_, rfl⟩
   refine wp_region_held_drew (S := (fun w' => w'.rangeAt w.heap.size 0 (#[.bool true, .int .u64 cap0, .slice A0 n0 c0] : Array Value).toList)) (by kernel_rfl) ?_ (fun hHeld => ?_)
   ·exact HH.out.h3.rng
   refine loadA 0 #[.bool true, .int .u64 cap0, .slice A0 n0 c0] Tryz.underlying40 rfl (by kernel_rfl) ?_ ?_
   ·(intro w hSw; exact hSw)
   try simp only [Act.put, pS]
   have HH : Hid (B3 w V 40 #[.bool true, .int .u64 cap0, .slice A0 n0 c0] #[.bool false, .int .u64 0, .slice none 0 0] #[.int .i64 0, .int .u64 0]) := by show B3 _ _ _ _ _ _; rw [← hV]; exact HH.out.drew
   rw [hV] at hHeld ⊢
   clear hV
   refine comeA 1 fun K hK => ?_
   go_simp
   refine (rgives22 1 _).mono ?_
   rintro e V1 ⟨rfl, hb⟩
   have HH := Lib.hid (HH.out.below hb)
   clear hb
   go_simp
   refine hK.out _ _ ?_ (fun hHeld => ?_)
   ·exact HH.out.h3.rng
   clear hK K
   try simp only [Act.put, pS]
   refine comeA 2 fun K hK => ?_
   have qc := c3 HH.out.h6; have e0 := qc.1; have e1 := qc.2.1; have e2 := qc.2.2.1; have f0 := qc.2.2.2.1; have f1 := qc.2.2.2.2.1; have f2 := qc.2.2.2.2.2.1; have kf := qc.2.2.2.2.2.2; clear qc
   go_simp
   clear e0 f0 e1 f1 e2 f2 kf
   obtain ⟨V8, hX⟩ : ∃ X, (((V1.setCell ⟨(w.heap.size + 1), 0, none⟩ (.bool true)).setCell ⟨(w.heap.size + 1), 1, none⟩ (.int .u64 cap0)).setCell ⟨(w.heap.size + 1), 2, none⟩ (.slice A0 n0 c0)) = X := ⟨_, rfl⟩
   have HH : Hid (B3 w V8 40 #[.bool true, .int .u64 cap0, .slice A0 n0 c0] #[.bool true, .int .u64 cap0, .slice A0 n0 c0] #[.int .i64 0, .int .u64 0]) := by show B3 _ _ _ _ _ _; rw [← hX]; exact HH.out.set6 _ _ _
   rw [hX]
   clear hX
   refine hK.out _ _ ?_ (fun hHeld => ?_)
   ·exact HH.out.h3.rng
   clear hK K
   try simp only [Act.put, pS]
   refine comeA 3 fun K hK => ?_
   have qc := c2 HH.out.h7; have e0 := qc.1; have e1 := qc.2.1; have f0 := qc.2.2.1; have f1 := qc.2.2.2.1; have kf := qc.2.2.2.2; clear qc
   go_simp
   clear e0 f0 e1 f1 kf
   obtain ⟨V9, hX⟩ : ∃ X, ((V8.setCell ⟨(w.heap.size + 2), 0, none⟩ (.int .i64 40)).setCell ⟨(w.heap.size + 2), 1, none⟩ (.int .u64 1)) = X := ⟨_, rfl⟩
   have HH : Hid (B3 w V9 40 #[.bool true, .int .u64 cap0, .slice A0 n0 c0] #[.bool true, .int .u64 cap0, .slice A0 n0 c0] #[.int .i64 40, .int .u64 1]) := by show B3 _ _ _ _ _ _; rw [← hX]; exact HH.out.set7 _ _
   rw [hX]
   clear hX
   refine hK.out _ _ ?_ (fun hHeld => ?_)
   ·exact HH.out.h3.rng
   clear hK K
   try simp only [Act.put, pS]
   refine wpAnyH_done (by kernel_rfl) ?_ _
   try simp only [Act.put, pS]
   have HQ3 := Lib.hid (RTo.of w.heap.size (HQ.out.below HH.out.hb hB))
   go_wp2_with ((with_reducible show bodyPost _ _ _ _ _ _); refine bodyPost_ret (results_cc rfl _ V9 (w.heap.size + 1) (w.heap.size + 2) 40 47 #[.bool true, .int .u64 cap0, .slice A0 n0 c0] #[.int .i64 40, .int .u64 1] _ _ (by rfl) HH.out.h6 Tryz.underlying40 rfl (by kernel_rfl) (by rfl) HH.out.h7 Tryz.underlying47 rfl (by kernel_rfl)) rfl ?_; exact ⟨_, _, rfl, HQ3.out, ⟨_, _, rfl⟩, HH.out.hb⟩)
  ·have hlt : k < n0 := by have := (List.getElem?_eq_some_iff.1 hkv).1; have := HLl.out; omega
   have hki : (k : Int) < (n0 : Int) := by omega
   have hk0 : decide ((k : Int) < 0) = false := decide_eq_false (by omega)
   have hk1 : ¬ ((k : Int) < 0) := by omega
   obtain ⟨b9, o9, rfl, hb9, hc9⟩ := HR.out.at_ (by omega)
   have hcl : w.cell? ⟨b9, o9 + k * 2 + 1, none⟩ = some (.int .u64 v) := hc9 (k * 2 + 1) _ (pCells_at hkv).2
   clear hc9
   go_upto_region 20 with fail
   clear k0 k1 k2
   obtain ⟨V, hV⟩ : ∃ V, W1.drew = V := ⟨_, rfl⟩
   refine wp_region_held_drew (S := (fun w' => w'.rangeAt w.heap.size 0 (#[.bool true, .int .u64 cap0, .slice (some ⟨b9, o9, none⟩) n0 c0] : Array Value).toList ∧ w'.cell? ⟨w.heap.size, 2, none⟩ = some (.slice (some ⟨b9, o9, none⟩) n0 c0) ∧ w'.cell? ⟨b9, o9 + k * 2 + 1, none⟩ = some (.int .u64 v))) (by kernel_rfl) ?_ (fun hHeld => ?_)
   ·exact ⟨HH.out.h3.rng, HH.out.h3.cell 2, (HH.out.hb.cell (p := ⟨b9, o9 + k * 2 + 1, none⟩) hb9).trans hcl⟩
   refine loadA 0 #[.bool true, .int .u64 cap0, .slice (some ⟨b9, o9, none⟩) n0 c0] Tryz.underlying40 rfl (by kernel_rfl) ?_ ?_
   ·(intro w hSw; exact hSw.1)
   try simp only [Act.put, pS]
   refine takeA 1 ?_
   try simp only [Act.put, pS]
   refine takeA 2 ?_
   try simp only [Act.put, pS]
   refine takeA 3 ?_
   try simp only [Act.put, pS]
   refine takeA 4 ?_
   try simp only [Act.put, pS]
   refine takeA 5 ?_
   try simp only [Act.put, pS]
   refine takeA 6 ?_
   try simp only [Act.put, pS]
   refine takeA 7 ?_
   try simp only [Act.put, pS]
   have HH : Hid (B3 w V 40 #[.bool true, .int .u64 cap0, .slice (some ⟨b9, o9, none⟩) n0 c0] #[.bool false, .int .u64 0, .slice none 0 0] #[.int .i64 0, .int .u64 0]) := by show B3 _ _ _ _ _ _; rw [← hV]; exact HH.out.drew
   rw [hV] at hHeld ⊢
   clear hV
   refine comeA 8 fun K hK => ?_
   have qc := c3 HH.out.h6; have e0 := qc.1; have e1 := qc.2.1; have e2 := qc.2.2.1; have f0 := qc.2.2.2.1; have f1 := qc.2.2.2.2.1; have f2 := qc.2.2.2.2.2.1; have kf := qc.2.2.2.2.2.2; clear qc
   go_simp
   clear e0 f0 e1 f1 e2 f2 kf
   obtain ⟨V8, hX⟩ : ∃ X, (((V.setCell ⟨(w.heap.size + 1), 0, none⟩ (.bool true)).setCell ⟨(w.heap.size + 1), 1, none⟩ (.int .u64 cap0)).setCell ⟨(w.heap.size + 1), 2, none⟩ (.slice (some ⟨b9, o9, none⟩) n0 c0)) = X := ⟨_, rfl⟩
   have HH : Hid (B3 w V8 40 #[.bool true, .int .u64 cap0, .slice (some ⟨b9, o9, none⟩) n0 c0] #[.bool true, .int .u64 cap0, .slice (some ⟨b9, o9, none⟩) n0 c0] #[.int .i64 0, .int .u64 0]) := by show B3 _ _ _ _ _ _; rw [← hX]; exact HH.out.set6 _ _ _
   rw [hX]
   clear hX
   refine hK.out _ _ ?_ (fun hHeld => ?_)
   ·exact ⟨HH.out.h3.rng, HH.out.h3.cell 2, (HH.out.hb.cell (p := ⟨b9, o9 + k * 2 + 1, none⟩) hb9).trans hcl⟩
   clear hK K
   try simp only [Act.put, pS]
   refine comeA 9 fun K hK => ?_
   have qc := c2 HH.out.h7; have e0 := qc.1; have e1 := qc.2.1; have f0 := qc.2.2.1; have f1 := qc.2.2.2.1; have kf := qc.2.2.2.2; clear qc
   go_simp
   clear e0 f0 e1 f1 kf
   obtain ⟨V9, hX⟩ : ∃ X, ((V8.setCell ⟨(w.heap.size + 2), 0, none⟩ (.int .i64 0)).setCell ⟨(w.heap.size + 2), 1, none⟩ (.int .u64 v)) = X := ⟨_, rfl⟩
   have HH : Hid (B3 w V9 40 #[.bool true, .int .u64 cap0, .slice (some ⟨b9, o9, none⟩) n0 c0] #[.bool true, .int .u64 cap0, .slice (some ⟨b9, o9, none⟩) n0 c0] #[.int .i64 0, .int .u64 v]) := by show B3 _ _ _ _ _ _; rw [← hX]; exact HH.out.set7 _ _
   rw [hX]
   clear hX
   refine hK.out _ _ ?_ (fun hHeld => ?_)
   ·exact ⟨HH.out.h3.rng, HH.out.h3.cell 2, (HH.out.hb.cell (p := ⟨b9, o9 + k * 2 + 1, none⟩) hb9).trans hcl⟩
   clear hK K
   try simp only [Act.put, pS]
   refine wpAnyH_done (by kernel_rfl) ?_ _
   try simp only [Act.put, pS]
   go_wp2_with ((with_reducible show bodyPost _ _ _ _ _ _); refine bodyPost_ret (results_cc rfl _ V9 (w.heap.size + 1) (w.heap.size + 2) 40 47 #[.bool true, .int .u64 cap0, .slice (some ⟨b9, o9, none⟩) n0 c0] #[.int .i64 0, .int .u64 v] _ _ (by rfl) HH.out.h6 Tryz.underlying40 rfl (by kernel_rfl) (by rfl) HH.out.h7 Tryz.underlying47 rfl (by kernel_rfl)) rfl ?_; exact ⟨_, _, rfl, RTo.of _ (HQ.out.below HH.out.hb hB), ⟨_, _, rfl⟩, HH.out.hb⟩)
set_option maxRecDepth 100000 in
set_option maxHeartbeats 8000000 in
theorem rt_del (o : PO) (vs : Array Value) (a b : Int) (L B : Nat) (w : World) (hq : RT L B w vs o) (hL : L ≤ w.heap.size) (hB : B ≤ w.heap.size) (hok : TOk 100 o) (ha : U64' a) (hbb : U64' b) :
 Calls Tryz.prog 26 #[.agg vs, .string ⟨#[100, 101, 108]⟩, .int .u64 a, .int .u64 b] w (DoesRT L B w (tP 3 a b o)) := by
 obtain ⟨is, cap0, A0, n0, c0, hvs, his, hn0⟩ := hq.cells (by rintro cap l rfl; exact hok.2.2.1)
 subst hvs
 have HQ := Lib.hid hq
 have HIs := Lib.hid his
 obtain ⟨W1, hW1⟩ : ∃ W1, ((w.alloc (.cells #[.bool is, .int .u64 cap0, .slice A0 n0 c0] 40)).alloc (.cells #[.bool false, .int .u64 0, .slice none 0 0] 40)).alloc (.cells #[.int .i64 0, .int .u64 0] 47) = W1 := ⟨_, rfl⟩
 have htb := b3_new w #[.bool is, .int .u64 cap0, .slice A0 n0 c0] #[.bool false, .int .u64 0, .slice none 0 0] #[.int .i64 0, .int .u64 0] 40
 simp only [hW1] at htb
 have HH := Lib.hid htb
 have HW1 := Lib.hid hW1
 clear htb hW1 hq his
 go_enter Tryz.func26, Tryz.ntmps26
 go_upto_region 1 with fail
 rw [HW1.out]
 clear HW1
 have k0 := (c3 HH.out.h3).1
 have k1 := (c3 HH.out.h3).2.1
 have k2 := (c3 HH.out.h3).2.2.1
 have hwr : IntKind.u64.wrap (n0 : Int) = n0 := by rw [IntKind.wrap_u64]; omega
 rcases o with _ | ⟨cap, l⟩
 ·obtain ⟨rfl⟩ : is = false := HIs.out
  go_upto_region 9 with fail
  clear k0 k1 k2
  obtain ⟨V, hV⟩ : ∃ V, W1.drew = V := ⟨_, rfl⟩
  refine wp_region_held_drew (S := (fun w' => w'.rangeAt w.heap.size 0 (#[.bool false, .int .u64 cap0, .slice A0 n0 c0] : Array Value).toList)) (by kernel_rfl) ?_ (fun hHeld => ?_)
  ·exact HH.out.h3.rng
  refine loadA 0 #[.bool false, .int .u64 cap0, .slice A0 n0 c0] Tryz.underlying40 rfl (by kernel_rfl) ?_ ?_
  ·(intro w hSw; exact hSw)
  try simp only [Act.put, pS]
  have HH : Hid (B3 w V 40 #[.bool false, .int .u64 cap0, .slice A0 n0 c0] #[.bool false, .int .u64 0, .slice none 0 0] #[.int .i64 0, .int .u64 0]) := by show B3 _ _ _ _ _ _; rw [← hV]; exact HH.out.drew
  rw [hV] at hHeld ⊢
  clear hV
  refine comeA 1 fun K hK => ?_
  go_simp
  refine (rgives22 3 _).mono ?_
  rintro e V1 ⟨rfl, hb⟩
  have HH := Lib.hid (HH.out.below hb)
  clear hb
  go_simp
  refine hK.out _ _ ?_ (fun hHeld => ?_)
  ·exact HH.out.h3.rng
  clear hK K
  try simp only [Act.put, pS]
  refine comeA 2 fun K hK => ?_
  have qc := c3 HH.out.h6; have e0 := qc.1; have e1 := qc.2.1; have e2 := qc.2.2.1; have f0 := qc.2.2.2.1; have f1 := qc.2.2.2.2.1; have f2 := qc.2.2.2.2.2.1; have kf := qc.2.2.2.2.2.2; clear qc
  go_simp
  clear e0 f0 e1 f1 e2 f2 kf
  obtain ⟨V8, hX⟩ : ∃ X, (((V1.setCell ⟨(w.heap.size + 1), 0, none⟩ (.bool false)).setCell ⟨(w.heap.size + 1), 1, none⟩ (.int .u64 cap0)).setCell ⟨(w.heap.size + 1), 2, none⟩ (.slice A0 n0 c0)) = X := ⟨_, rfl⟩
  have HH : Hid (B3 w V8 40 #[.bool false, .int .u64 cap0, .slice A0 n0 c0] #[.bool false, .int .u64 cap0, .slice A0 n0 c0] #[.int .i64 0, .int .u64 0]) := by show B3 _ _ _ _ _ _; rw [← hX]; exact HH.out.set6 _ _ _
  rw [hX]
  clear hX
  refine hK.out _ _ ?_ (fun hHeld => ?_)
  ·exact HH.out.h3.rng
  clear hK K
  try simp only [Act.put, pS]
  refine comeA 3 fun K hK => ?_
  have qc := c2 HH.out.h7; have e0 := qc.1; have e1 := qc.2.1; have f0 := qc.2.2.1; have f1 := qc.2.2.2.1; have kf := qc.2.2.2.2; clear qc
  go_simp
  clear e0 f0 e1 f1 kf
  obtain ⟨V9, hX⟩ : ∃ X, ((V8.setCell ⟨(w.heap.size + 2), 0, none⟩ (.int .i64 40)).setCell ⟨(w.heap.size + 2), 1, none⟩ (.int .u64 3)) = X := ⟨_, rfl⟩
  have HH : Hid (B3 w V9 40 #[.bool false, .int .u64 cap0, .slice A0 n0 c0] #[.bool false, .int .u64 cap0, .slice A0 n0 c0] #[.int .i64 40, .int .u64 3]) := by show B3 _ _ _ _ _ _; rw [← hX]; exact HH.out.set7 _ _
  rw [hX]
  clear hX
  refine hK.out _ _ ?_ (fun hHeld => ?_)
  ·exact HH.out.h3.rng
  clear hK K
  try simp only [Act.put, pS]
  refine wpAnyH_done (by kernel_rfl) ?_ _
  try simp only [Act.put, pS]
  have HQ3 := Lib.hid (RTo.of w.heap.size (HQ.out.below HH.out.hb hB))
  go_wp2_with ((with_reducible show bodyPost _ _ _ _ _ _); refine bodyPost_ret (results_cc rfl _ V9 (w.heap.size + 1) (w.heap.size + 2) 40 47 #[.bool false, .int .u64 cap0, .slice A0 n0 c0] #[.int .i64 40, .int .u64 3] _ _ (by rfl) HH.out.h6 Tryz.underlying40 rfl (by kernel_rfl) (by rfl) HH.out.h7 Tryz.underlying47 rfl (by kernel_rfl)) rfl ?_; exact ⟨_, _, rfl, HQ3.out, ⟨_, _, rfl⟩, HH.out.hb⟩)
 ·obtain ⟨rfl⟩ : is = true := HIs.out
  obtain ⟨A9, n9, c9, e9, hs9, hr9⟩ := HQ.out
  simp only [Array.mk.injEq, List.cons.injEq, Value.int.injEq, Value.slice.injEq, and_true, true_and] at e9
  obtain ⟨rfl, rfl, rfl, rfl⟩ := e9
  have HR := Lib.hid (hr9.more hB)
  have HRB := Lib.hid hr9
  have HS9 := Lib.hid hs9
  have HLl := Lib.hid hr9.pairLen
  clear hr9
  have HRW : Hid (RdP W1 W1.heap.size A0 n0 l) := (HR.out.below HH.out.hb).more HH.out.hb.size
  go_upto_region 11 with (
   go_at_call 54
   refine (rfind_any l A0 n0 c0 a _ HRW.out (by omega)).mono ?_
   rintro e wh ⟨⟨z, rfl, hz⟩, hwh⟩
   rw [hwh]
   clear hwh
   have HZ := Lib.hid hz
   clear hz)
  rcases HZ.out with ⟨rfl, hin⟩ | ⟨k, v, rfl, hkv⟩
  ·have HE : Hid (tP 3 a b (some (cap0, l)) = some (cap0, l)) := by show some (cap0, delT a l) = _; rw [delT_not hin]
   have qc := c3 HH.out.h6; have e0 := qc.1; have e1 := qc.2.1; have e2 := qc.2.2.1; have f0 := qc.2.2.2.1; have f1 := qc.2.2.2.2.1; have f2 := qc.2.2.2.2.2.1; have kf := qc.2.2.2.2.2.2; clear qc
   have qc := c2 HH.out.h7; have d0 := qc.1; have d1 := qc.2.1; have h0 := qc.2.2.1; have h1 := qc.2.2.2.1; have kg := qc.2.2.2.2; clear qc
   obtain ⟨V, hV⟩ : ∃ V, (((((W1.setCell ⟨(w.heap.size + 1), 0, none⟩ (.bool true)).setCell ⟨(w.heap.size + 1), 1, none⟩ (.int .u64 cap0)).setCell ⟨(w.heap.size + 1), 2, none⟩ (.slice A0 n0 c0)).setCell ⟨(w.heap.size + 2), 0, none⟩ (.int .i64 0)).setCell ⟨(w.heap.size + 2), 1, none⟩ (.int .u64 0)) = V := ⟨_, rfl⟩
   have HHn : Hid (B3 w V 40 #[.bool true, .int .u64 cap0, .slice A0 n0 c0] #[.bool true, .int .u64 cap0, .slice A0 n0 c0] #[.int .i64 0, .int .u64 0]) := by show B3 _ _ _ _ _ _; rw [← hV]; exact (HH.out.set6 _ _ _).set7 _ _
   have HBn := Lib.hid HHn.out.hb
   have HQn : Hid (RTo L B w.heap.size V #[.bool true, .int .u64 cap0, .slice A0 n0 c0] (some (cap0, l))) := by show RTo _ _ _ _ _ _; exact RTo.of _ (HQ.out.below HBn.out hB)
   have HV := Lib.hid hV
   clear hV
   go_wp2_with ((with_reducible show bodyPost _ _ _ _ _ _); rw [HV.out]; refine bodyPost_ret (results_cc rfl _ V (w.heap.size + 1) (w.heap.size + 2) 40 47 #[.bool true, .int .u64 cap0, .slice A0 n0 c0] #[.int .i64 0, .int .u64 0] _ _ (by rfl) HHn.out.h6 Tryz.underlying40 rfl (by kernel_rfl) (by rfl) HHn.out.h7 Tryz.underlying47 rfl (by kernel_rfl)) rfl ?_; exact ⟨_, _, rfl, (by rw [HE.out]; exact HQn.out), ⟨_, _, rfl⟩, HBn.out⟩)
  ·have hlt : k < n0 := by have := (List.getElem?_eq_some_iff.1 hkv).1; have := HLl.out; omega
   have hki : (k : Int) < (n0 : Int) := by omega
   have hk0 : decide ((k : Int) < 0) = false := decide_eq_false (by omega)
   have hk1 : ¬ ((k : Int) < 0) := by omega
   have HE : Hid (tP 3 a b (some (cap0, l)) = some (cap0, delT a l)) := by show _ = _; rfl
   go_upto_region 24 with fail
   clear k0 k1 k2
   obtain ⟨V, hV⟩ : ∃ V, W1.drew = V := ⟨_, rfl⟩
   refine wp_region_held_drew (S := (fun w' => w'.cell? ⟨w.heap.size, 2, none⟩ = some (.slice A0 n0 c0) ∧ w'.cell? ⟨w.heap.size, 1, none⟩ = some (.int .u64 cap0))) (by kernel_rfl) ?_ (fun hHeld => ?_)
   ·exact ⟨HH.out.h3.cell 2, HH.out.h3.cell 1⟩
   refine takeA 0 ?_
   try simp only [Act.put, pS]
   refine takeA 1 ?_
   try simp only [Act.put, pS]
   refine takeA 2 ?_
   try simp only [Act.put, pS]
   refine takeA 3 ?_
   try simp only [Act.put, pS]
   refine takeA 4 ?_
   try simp only [Act.put, pS]
   refine takeA 7 ?_
   try simp only [Act.put, pS]
   have HH : Hid (B3 w V 40 #[.bool true, .int .u64 cap0, .slice A0 n0 c0] #[.bool false, .int .u64 0, .slice none 0 0] #[.int .i64 0, .int .u64 0]) := by show B3 _ _ _ _ _ _; rw [← hV]; exact HH.out.drew
   rw [hV] at hHeld ⊢
   clear hV
   have HM : Hid (w.heap.size + 2 < V.heap.size) := HH.out.h7.lt
   refine comeA 5 fun K hK => ?_
   go_simp
   refine (rtwithout_any l A0 n0 c0 a _ ((HR.out.below HH.out.hb).more HH.out.hb.size) (by omega)).mono ?_
   rintro e V1 ⟨v5, rfl, hown, hb⟩
   have HO : Hid (V1.ownsRow V.heap.size 129 2 v5 (delT a l).length (pCells (delT a l))) := hown
   clear hown
   have HH := Lib.hid (HH.out.below hb)
   clear hb
   go_simp
   obtain ⟨A5, c5, rfl, _⟩ := own_slv HO.out
   refine hK.out _ _ ?_ (fun hHeld => ?_)
   ·exact ⟨HH.out.h3.cell 2, HH.out.h3.cell 1⟩
   clear hK K
   try simp only [Act.put, pS]
   refine takeA 6 ?_
   try simp only [Act.put, pS]
   refine comeA 8 fun K hK => ?_
   have qc := c3 HH.out.h6; have e0 := qc.1; have e1 := qc.2.1; have e2 := qc.2.2.1; have f0 := qc.2.2.2.1; have f1 := qc.2.2.2.2.1; have f2 := qc.2.2.2.2.2.1; have kf := qc.2.2.2.2.2.2; clear qc
   go_simp
   clear e0 f0 e1 f1 e2 f2 kf
   obtain ⟨V8, hX⟩ : ∃ X, (((V1.setCell ⟨(w.heap.size + 1), 0, none⟩ (.bool true)).setCell ⟨(w.heap.size + 1), 1, none⟩ (.int .u64 cap0)).setCell ⟨(w.heap.size + 1), 2, none⟩ (.slice A5 ((delT a l).length) c5)) = X := ⟨_, rfl⟩
   have HH : Hid (B3 w V8 40 #[.bool true, .int .u64 cap0, .slice A0 n0 c0] #[.bool true, .int .u64 cap0, .slice A5 ((delT a l).length) c5] #[.int .i64 0, .int .u64 0]) := by show B3 _ _ _ _ _ _; rw [← hX]; exact HH.out.set6 _ _ _
   have HO : Hid (V8.ownsRow V.heap.size 129 2 (.slice A5 ((delT a l).length) c5) (delT a l).length (pCells (delT a l))) := by show World.ownsRow _ _ _ _ _ _ _; rw [← hX]; exact own_set3 HO.out (by have := HM.out; omega) _ _ _
   rw [hX]
   clear hX
   refine hK.out _ _ ?_ (fun hHeld => ?_)
   ·exact ⟨HH.out.h3.cell 2, HH.out.h3.cell 1⟩
   clear hK K
   try simp only [Act.put, pS]
   refine comeA 9 fun K hK => ?_
   have qc := c2 HH.out.h7; have e0 := qc.1; have e1 := qc.2.1; have f0 := qc.2.2.1; have f1 := qc.2.2.2.1; have kf := qc.2.2.2.2; clear qc
   go_simp
   clear e0 f0 e1 f1 kf
   obtain ⟨V9, hX⟩ : ∃ X, ((V8.setCell ⟨(w.heap.size + 2), 0, none⟩ (.int .i64 0)).setCell ⟨(w.heap.size + 2), 1, none⟩ (.int .u64 1)) = X := ⟨_, rfl⟩
   have HH : Hid (B3 w V9 40 #[.bool true, .int .u64 cap0, .slice A0 n0 c0] #[.bool true, .int .u64 cap0, .slice A5 ((delT a l).length) c5] #[.int .i64 0, .int .u64 1]) := by show B3 _ _ _ _ _ _; rw [← hX]; exact HH.out.set7 _ _
   have HO : Hid (V9.ownsRow V.heap.size 129 2 (.slice A5 ((delT a l).length) c5) (delT a l).length (pCells (delT a l))) := by show World.ownsRow _ _ _ _ _ _ _; rw [← hX]; exact own_set2 HO.out (by have := HM.out; omega) _ _
   rw [hX]
   clear hX
   refine hK.out _ _ ?_ (fun hHeld => ?_)
   ·exact ⟨HH.out.h3.cell 2, HH.out.h3.cell 1⟩
   clear hK K
   try simp only [Act.put, pS]
   refine wpAnyH_done (by kernel_rfl) ?_ _
   try simp only [Act.put, pS]
   go_wp2_with ((with_reducible show bodyPost _ _ _ _ _ _); refine bodyPost_ret (results_cc rfl _ V9 (w.heap.size + 1) (w.heap.size + 2) 40 47 #[.bool true, .int .u64 cap0, .slice A5 ((delT a l).length) c5] #[.int .i64 0, .int .u64 1] _ _ (by rfl) HH.out.h6 Tryz.underlying40 rfl (by kernel_rfl) (by rfl) HH.out.h7 Tryz.underlying47 rfl (by kernel_rfl)) rfl ?_; exact ⟨_, _, rfl, (by rw [HE.out]; exact rt_own hL (own_base HO.out (by have := HM.out; omega))), ⟨_, _, rfl⟩, HH.out.hb⟩)
set_option maxRecDepth 100000 in
set_option maxHeartbeats 8000000 in
theorem rt_put (o : PO) (vs : Array Value) (a b : Int) (L B : Nat) (w : World) (hq : RT L B w vs o) (hL : L ≤ w.heap.size) (hB : B ≤ w.heap.size) (hok : TOk 100 o) (ha : U64' a) (hbb : U64' b) :
 Calls Tryz.prog 26 #[.agg vs, .string ⟨#[112, 117, 116]⟩, .int .u64 a, .int .u64 b] w (DoesRT L B w (tP 1 a b o)) := by
 obtain ⟨is, cap0, A0, n0, c0, hvs, his, hn0⟩ := hq.cells (by rintro cap l rfl; exact hok.2.2.1)
 subst hvs
 have HQ := Lib.hid hq
 have HIs := Lib.hid his
 obtain ⟨W1, hW1⟩ : ∃ W1, ((w.alloc (.cells #[.bool is, .int .u64 cap0, .slice A0 n0 c0] 40)).alloc (.cells #[.bool false, .int .u64 0, .slice none 0 0] 40)).alloc (.cells #[.int .i64 0, .int .u64 0] 47) = W1 := ⟨_, rfl⟩
 have htb := b3_new w #[.bool is, .int .u64 cap0, .slice A0 n0 c0] #[.bool false, .int .u64 0, .slice none 0 0] #[.int .i64 0, .int .u64 0] 40
 simp only [hW1] at htb
 have HH := Lib.hid htb
 have HW1 := Lib.hid hW1
 clear htb hW1 hq his
 go_enter Tryz.func26, Tryz.ntmps26
 go_upto_region 1 with fail
 rw [HW1.out]
 clear HW1
 have k0 := (c3 HH.out.h3).1
 have k1 := (c3 HH.out.h3).2.1
 have k2 := (c3 HH.out.h3).2.2.1
 have hwr : IntKind.u64.wrap (n0 : Int) = n0 := by rw [IntKind.wrap_u64]; omega
 rcases o with _ | ⟨cap, l⟩
 ·obtain ⟨rfl⟩ : is = false := HIs.out
  go_upto_region 9 with fail
  clear k0 k1 k2
  obtain ⟨V, hV⟩ : ∃ V, W1.drew = V := ⟨_, rfl⟩
  refine wp_region_held_drew (S := (fun w' => w'.rangeAt w.heap.size 0 (#[.bool false, .int .u64 cap0, .slice A0 n0 c0] : Array Value).toList)) (by kernel_rfl) ?_ (fun hHeld => ?_)
  ·exact HH.out.h3.rng
  refine loadA 0 #[.bool false, .int .u64 cap0, .slice A0 n0 c0] Tryz.underlying40 rfl (by kernel_rfl) ?_ ?_
  ·(intro w hSw; exact hSw)
  try simp only [Act.put, pS]
  have HH : Hid (B3 w V 40 #[.bool false, .int .u64 cap0, .slice A0 n0 c0] #[.bool false, .int .u64 0, .slice none 0 0] #[.int .i64 0, .int .u64 0]) := by show B3 _ _ _ _ _ _; rw [← hV]; exact HH.out.drew
  rw [hV] at hHeld ⊢
  clear hV
  refine comeA 1 fun K hK => ?_
  go_simp
  refine (rgives22 3 _).mono ?_
  rintro e V1 ⟨rfl, hb⟩
  have HH := Lib.hid (HH.out.below hb)
  clear hb
  go_simp
  refine hK.out _ _ ?_ (fun hHeld => ?_)
  ·exact HH.out.h3.rng
  clear hK K
  try simp only [Act.put, pS]
  refine comeA 2 fun K hK => ?_
  have qc := c3 HH.out.h6; have e0 := qc.1; have e1 := qc.2.1; have e2 := qc.2.2.1; have f0 := qc.2.2.2.1; have f1 := qc.2.2.2.2.1; have f2 := qc.2.2.2.2.2.1; have kf := qc.2.2.2.2.2.2; clear qc
  go_simp
  clear e0 f0 e1 f1 e2 f2 kf
  obtain ⟨V8, hX⟩ : ∃ X, (((V1.setCell ⟨(w.heap.size + 1), 0, none⟩ (.bool false)).setCell ⟨(w.heap.size + 1), 1, none⟩ (.int .u64 cap0)).setCell ⟨(w.heap.size + 1), 2, none⟩ (.slice A0 n0 c0)) = X := ⟨_, rfl⟩
  have HH : Hid (B3 w V8 40 #[.bool false, .int .u64 cap0, .slice A0 n0 c0] #[.bool false, .int .u64 cap0, .slice A0 n0 c0] #[.int .i64 0, .int .u64 0]) := by show B3 _ _ _ _ _ _; rw [← hX]; exact HH.out.set6 _ _ _
  rw [hX]
  clear hX
  refine hK.out _ _ ?_ (fun hHeld => ?_)
  ·exact HH.out.h3.rng
  clear hK K
  try simp only [Act.put, pS]
  refine comeA 3 fun K hK => ?_
  have qc := c2 HH.out.h7; have e0 := qc.1; have e1 := qc.2.1; have f0 := qc.2.2.1; have f1 := qc.2.2.2.1; have kf := qc.2.2.2.2; clear qc
  go_simp
  clear e0 f0 e1 f1 kf
  obtain ⟨V9, hX⟩ : ∃ X, ((V8.setCell ⟨(w.heap.size + 2), 0, none⟩ (.int .i64 40)).setCell ⟨(w.heap.size + 2), 1, none⟩ (.int .u64 3)) = X := ⟨_, rfl⟩
  have HH : Hid (B3 w V9 40 #[.bool false, .int .u64 cap0, .slice A0 n0 c0] #[.bool false, .int .u64 cap0, .slice A0 n0 c0] #[.int .i64 40, .int .u64 3]) := by show B3 _ _ _ _ _ _; rw [← hX]; exact HH.out.set7 _ _
  rw [hX]
  clear hX
  refine hK.out _ _ ?_ (fun hHeld => ?_)
  ·exact HH.out.h3.rng
  clear hK K
  try simp only [Act.put, pS]
  refine wpAnyH_done (by kernel_rfl) ?_ _
  try simp only [Act.put, pS]
  have HQ3 := Lib.hid (RTo.of w.heap.size (HQ.out.below HH.out.hb hB))
  go_wp2_with ((with_reducible show bodyPost _ _ _ _ _ _); refine bodyPost_ret (results_cc rfl _ V9 (w.heap.size + 1) (w.heap.size + 2) 40 47 #[.bool false, .int .u64 cap0, .slice A0 n0 c0] #[.int .i64 40, .int .u64 3] _ _ (by rfl) HH.out.h6 Tryz.underlying40 rfl (by kernel_rfl) (by rfl) HH.out.h7 Tryz.underlying47 rfl (by kernel_rfl)) rfl ?_; exact ⟨_, _, rfl, HQ3.out, ⟨_, _, rfl⟩, HH.out.hb⟩)
 ·obtain ⟨rfl⟩ : is = true := HIs.out
  obtain ⟨A9, n9, c9, e9, hs9, hr9⟩ := HQ.out
  simp only [Array.mk.injEq, List.cons.injEq, Value.int.injEq, Value.slice.injEq, and_true, true_and] at e9
  obtain ⟨rfl, rfl, rfl, rfl⟩ := e9
  have HR := Lib.hid (hr9.more hB)
  have HRB := Lib.hid hr9
  have HS9 := Lib.hid hs9
  have HLl := Lib.hid hr9.pairLen
  clear hr9
  have HRW : Hid (RdP W1 W1.heap.size A0 n0 l) := (HR.out.below HH.out.hb).more HH.out.hb.size
  go_upto_region 11 with (
   go_at_call 54
   refine (rfind_any l A0 n0 c0 a _ HRW.out (by omega)).mono ?_
   rintro e wh ⟨⟨z, rfl, hz⟩, hwh⟩
   rw [hwh]
   clear hwh
   have HZ := Lib.hid hz
   clear hz)
  rcases HZ.out with ⟨rfl, hin⟩ | ⟨k, v, rfl, hkv⟩
  ·by_cases hfull : cap0 ≤ (n0 : Int)
   ·have hca : decide ((n0 : Int) ≥ cap0) = true := decide_eq_true (by omega)
    have HE : Hid (tP 1 a b (some (cap0, l)) = some (cap0, l)) := by show _ = _; show (if a ∈ l.map (·.1) then some (cap0, insT (a, b) (delT a l)) else if cap0 ≤ (l.length : Int) then some (cap0, l) else some (cap0, insT (a, b) (delT a l))) = _; rw [if_neg hin]; exact if_pos (by have := HLl.out; omega)
    go_upto_region 26 with fail
    clear k0 k1 k2
    obtain ⟨V, hV⟩ : ∃ V, W1.drew = V := ⟨_, rfl⟩
    refine wp_region_held_drew (S := (fun w' => w'.rangeAt w.heap.size 0 (#[.bool true, .int .u64 cap0, .slice A0 n0 c0] : Array Value).toList)) (by kernel_rfl) ?_ (fun hHeld => ?_)
    ·exact HH.out.h3.rng
    refine loadA 0 #[.bool true, .int .u64 cap0, .slice A0 n0 c0] Tryz.underlying40 rfl (by kernel_rfl) ?_ ?_
    ·(intro w hSw; exact hSw)
    try simp only [Act.put, pS]
    have HH : Hid (B3 w V 40 #[.bool true, .int .u64 cap0, .slice A0 n0 c0] #[.bool false, .int .u64 0, .slice none 0 0] #[.int .i64 0, .int .u64 0]) := by show B3 _ _ _ _ _ _; rw [← hV]; exact HH.out.drew
    rw [hV] at hHeld ⊢
    clear hV
    refine comeA 1 fun K hK => ?_
    go_simp
    refine (rgives22 2 _).mono ?_
    rintro e V1 ⟨rfl, hb⟩
    have HH := Lib.hid (HH.out.below hb)
    clear hb
    go_simp
    refine hK.out _ _ ?_ (fun hHeld => ?_)
    ·exact HH.out.h3.rng
    clear hK K
    try simp only [Act.put, pS]
    refine comeA 2 fun K hK => ?_
    have qc := c3 HH.out.h6; have e0 := qc.1; have e1 := qc.2.1; have e2 := qc.2.2.1; have f0 := qc.2.2.2.1; have f1 := qc.2.2.2.2.1; have f2 := qc.2.2.2.2.2.1; have kf := qc.2.2.2.2.2.2; clear qc
    go_simp
    clear e0 f0 e1 f1 e2 f2 kf
    obtain ⟨V8, hX⟩ : ∃ X, (((V1.setCell ⟨(w.heap.size + 1), 0, none⟩ (.bool true)).setCell ⟨(w.heap.size + 1), 1, none⟩ (.int .u64 cap0)).setCell ⟨(w.heap.size + 1), 2, none⟩ (.slice A0 n0 c0)) = X := ⟨_, rfl⟩
    have HH : Hid (B3 w V8 40 #[.bool true, .int .u64 cap0, .slice A0 n0 c0] #[.bool true, .int .u64 cap0, .slice A0 n0 c0] #[.int .i64 0, .int .u64 0]) := by show B3 _ _ _ _ _ _; rw [← hX]; exact HH.out.set6 _ _ _
    rw [hX]
    clear hX
    refine hK.out _ _ ?_ (fun hHeld => ?_)
    ·exact HH.out.h3.rng
    clear hK K
    try simp only [Act.put, pS]
    refine comeA 3 fun K hK => ?_
    have qc := c2 HH.out.h7; have e0 := qc.1; have e1 := qc.2.1; have f0 := qc.2.2.1; have f1 := qc.2.2.2.1; have kf := qc.2.2.2.2; clear qc
    go_simp
    clear e0 f0 e1 f1 kf
    obtain ⟨V9, hX⟩ : ∃ X, ((V8.setCell ⟨(w.heap.size + 2), 0, none⟩ (.int .i64 40)).setCell ⟨(w.heap.size + 2), 1, none⟩ (.int .u64 2)) = X := ⟨_, rfl⟩
    have HH : Hid (B3 w V9 40 #[.bool true, .int .u64 cap0, .slice A0 n0 c0] #[.bool true, .int .u64 cap0, .slice A0 n0 c0] #[.int .i64 40, .int .u64 2]) := by show B3 _ _ _ _ _ _; rw [← hX]; exact HH.out.set7 _ _
    rw [hX]
    clear hX
    refine hK.out _ _ ?_ (fun hHeld => ?_)
    ·exact HH.out.h3.rng
    clear hK K
    try simp only [Act.put, pS]
    refine wpAnyH_done (by kernel_rfl) ?_ _
    try simp only [Act.put, pS]
    have HQ3 := Lib.hid (RTo.of w.heap.size (HQ.out.below HH.out.hb hB))
    go_wp2_with ((with_reducible show bodyPost _ _ _ _ _ _); refine bodyPost_ret (results_cc rfl _ V9 (w.heap.size + 1) (w.heap.size + 2) 40 47 #[.bool true, .int .u64 cap0, .slice A0 n0 c0] #[.int .i64 40, .int .u64 2] _ _ (by rfl) HH.out.h6 Tryz.underlying40 rfl (by kernel_rfl) (by rfl) HH.out.h7 Tryz.underlying47 rfl (by kernel_rfl)) rfl ?_; exact ⟨_, _, rfl, (by rw [HE.out]; exact HQ3.out), ⟨_, _, rfl⟩, HH.out.hb⟩)
   ·have hca : decide ((n0 : Int) ≥ cap0) = false := decide_eq_false (by omega)
    have HE : Hid (tP 1 a b (some (cap0, l)) = some (cap0, insT (a, b) (delT a l))) := by show _ = _; show (if a ∈ l.map (·.1) then some (cap0, insT (a, b) (delT a l)) else if cap0 ≤ (l.length : Int) then some (cap0, l) else some (cap0, insT (a, b) (delT a l))) = _; rw [if_neg hin]; exact if_neg (by have := HLl.out; omega)
    go_upto_region 27 with fail
    clear k0 k1 k2
    obtain ⟨V, hV⟩ : ∃ V, W1.drew = V := ⟨_, rfl⟩
    refine wp_region_held_drew (S := (fun w' => w'.cell? ⟨w.heap.size, 2, none⟩ = some (.slice A0 n0 c0) ∧ w'.cell? ⟨w.heap.size, 1, none⟩ = some (.int .u64 cap0))) (by kernel_rfl) ?_ (fun hHeld => ?_)
    ·exact ⟨HH.out.h3.cell 2, HH.out.h3.cell 1⟩
    refine takeA 0 ?_
    try simp only [Act.put, pS]
    refine takeA 1 ?_
    try simp only [Act.put, pS]
    refine takeA 2 ?_
    try simp only [Act.put, pS]
    refine takeA 3 ?_
    try simp only [Act.put, pS]
    refine takeA 4 ?_
    try simp only [Act.put, pS]
    refine takeA 5 ?_
    try simp only [Act.put, pS]
    refine takeA 6 ?_
    try simp only [Act.put, pS]
    refine takeA 9 ?_
    try simp only [Act.put, pS]
    refine takeA 10 ?_
    try simp only [Act.put, pS]
    have HH : Hid (B3 w V 40 #[.bool true, .int .u64 cap0, .slice A0 n0 c0] #[.bool false, .int .u64 0, .slice none 0 0] #[.int .i64 0, .int .u64 0]) := by show B3 _ _ _ _ _ _; rw [← hV]; exact HH.out.drew
    rw [hV] at hHeld ⊢
    clear hV
    have HM : Hid (w.heap.size + 2 < V.heap.size) := HH.out.h7.lt
    refine comeA 7 fun K hK => ?_
    go_simp
    refine (rtwith_any l A0 n0 c0 a b _ ((HR.out.below HH.out.hb).more HH.out.hb.size) (by omega)).mono ?_
    rintro e V1 ⟨v5, rfl, hown, hb⟩
    have HO : Hid (V1.ownsRow V.heap.size 129 2 v5 (insT (a, b) (delT a l)).length (pCells (insT (a, b) (delT a l)))) := hown
    clear hown
    have HH := Lib.hid (HH.out.below hb)
    clear hb
    go_simp
    obtain ⟨A5, c5, rfl, _⟩ := own_slv HO.out
    refine hK.out _ _ ?_ (fun hHeld => ?_)
    ·exact ⟨HH.out.h3.cell 2, HH.out.h3.cell 1⟩
    clear hK K
    try simp only [Act.put, pS]
    refine takeA 8 ?_
    try simp only [Act.put, pS]
    refine comeA 11 fun K hK => ?_
    go_simp
    refine (rbit_any _ _).mono ?_
    rintro e V2 ⟨u, rfl, hV2⟩
    rw [hV2]
    clear hV2 V2
    go_simp
    refine hK.out _ _ ?_ (fun hHeld => ?_)
    ·exact ⟨HH.out.h3.cell 2, HH.out.h3.cell 1⟩
    clear hK K
    try simp only [Act.put, pS]
    refine takeA 12 ?_
    try simp only [Act.put, pS]
    refine comeA 13 fun K hK => ?_
    have qc := c3 HH.out.h6; have e0 := qc.1; have e1 := qc.2.1; have e2 := qc.2.2.1; have f0 := qc.2.2.2.1; have f1 := qc.2.2.2.2.1; have f2 := qc.2.2.2.2.2.1; have kf := qc.2.2.2.2.2.2; clear qc
    go_simp
    clear e0 f0 e1 f1 e2 f2 kf
    obtain ⟨V8, hX⟩ : ∃ X, (((V1.setCell ⟨(w.heap.size + 1), 0, none⟩ (.bool true)).setCell ⟨(w.heap.size + 1), 1, none⟩ (.int .u64 cap0)).setCell ⟨(w.heap.size + 1), 2, none⟩ (.slice A5 ((insT (a, b) (delT a l)).length) c5)) = X := ⟨_, rfl⟩
    have HH : Hid (B3 w V8 40 #[.bool true, .int .u64 cap0, .slice A0 n0 c0] #[.bool true, .int .u64 cap0, .slice A5 ((insT (a, b) (delT a l)).length) c5] #[.int .i64 0, .int .u64 0]) := by show B3 _ _ _ _ _ _; rw [← hX]; exact HH.out.set6 _ _ _
    have HO : Hid (V8.ownsRow V.heap.size 129 2 (.slice A5 ((insT (a, b) (delT a l)).length) c5) (insT (a, b) (delT a l)).length (pCells (insT (a, b) (delT a l)))) := by show World.ownsRow _ _ _ _ _ _ _; rw [← hX]; exact own_set3 HO.out (by have := HM.out; omega) _ _ _
    rw [hX]
    clear hX
    refine hK.out _ _ ?_ (fun hHeld => ?_)
    ·exact ⟨HH.out.h3.cell 2, HH.out.h3.cell 1⟩
    clear hK K
    try simp only [Act.put, pS]
    refine comeA 14 fun K hK => ?_
    have qc := c2 HH.out.h7; have e0 := qc.1; have e1 := qc.2.1; have f0 := qc.2.2.1; have f1 := qc.2.2.2.1; have kf := qc.2.2.2.2; clear qc
    go_simp
    clear e0 f0 e1 f1 kf
    obtain ⟨V9, hX⟩ : ∃ X, ((V8.setCell ⟨(w.heap.size + 2), 0, none⟩ (.int .i64 0)).setCell ⟨(w.heap.size + 2), 1, none⟩ (.int .u64 u)) = X := ⟨_, rfl⟩
    have HH : Hid (B3 w V9 40 #[.bool true, .int .u64 cap0, .slice A0 n0 c0] #[.bool true, .int .u64 cap0, .slice A5 ((insT (a, b) (delT a l)).length) c5] #[.int .i64 0, .int .u64 u]) := by show B3 _ _ _ _ _ _; rw [← hX]; exact HH.out.set7 _ _
    have HO : Hid (V9.ownsRow V.heap.size 129 2 (.slice A5 ((insT (a, b) (delT a l)).length) c5) (insT (a, b) (delT a l)).length (pCells (insT (a, b) (delT a l)))) := by show World.ownsRow _ _ _ _ _ _ _; rw [← hX]; exact own_set2 HO.out (by have := HM.out; omega) _ _
    rw [hX]
    clear hX
    refine hK.out _ _ ?_ (fun hHeld => ?_)
    ·exact ⟨HH.out.h3.cell 2, HH.out.h3.cell 1⟩
    clear hK K
    try simp only [Act.put, pS]
    refine wpAnyH_done (by kernel_rfl) ?_ _
    try simp only [Act.put, pS]
    go_wp2_with ((with_reducible show bodyPost _ _ _ _ _ _); refine bodyPost_ret (results_cc rfl _ V9 (w.heap.size + 1) (w.heap.size + 2) 40 47 #[.bool true, .int .u64 cap0, .slice A5 ((insT (a, b) (delT a l)).length) c5] #[.int .i64 0, .int .u64 u] _ _ (by rfl) HH.out.h6 Tryz.underlying40 rfl (by kernel_rfl) (by rfl) HH.out.h7 Tryz.underlying47 rfl (by kernel_rfl)) rfl ?_; exact ⟨_, _, rfl, (by rw [HE.out]; exact rt_own hL (own_base HO.out (by have := HM.out; omega))), ⟨_, _, rfl⟩, HH.out.hb⟩)
  ·have hlt : k < n0 := by have := (List.getElem?_eq_some_iff.1 hkv).1; have := HLl.out; omega
   have hki : (k : Int) < (n0 : Int) := by omega
   have hk0 : decide ((k : Int) < 0) = false := decide_eq_false (by omega)
   have hk1 : ¬ ((k : Int) < 0) := by omega
   have hk2 : decide ((k : Int) ≥ 0) = true := decide_eq_true (by omega)
   have HE : Hid (tP 1 a b (some (cap0, l)) = some (cap0, insT (a, b) (delT a l))) := by show _ = _; show (if a ∈ l.map (·.1) then some (cap0, insT (a, b) (delT a l)) else if cap0 ≤ (l.length : Int) then some (cap0, l) else some (cap0, insT (a, b) (delT a l))) = _; exact if_pos (List.mem_map.2 ⟨(a, v), List.mem_of_getElem? hkv, rfl⟩)
   go_upto_region 27 with fail
   clear k0 k1 k2
   obtain ⟨V, hV⟩ : ∃ V, W1.drew = V := ⟨_, rfl⟩
   refine wp_region_held_drew (S := (fun w' => w'.cell? ⟨w.heap.size, 2, none⟩ = some (.slice A0 n0 c0) ∧ w'.cell? ⟨w.heap.size, 1, none⟩ = some (.int .u64 cap0))) (by kernel_rfl) ?_ (fun hHeld => ?_)
   ·exact ⟨HH.out.h3.cell 2, HH.out.h3.cell 1⟩
   refine takeA 0 ?_
   try simp only [Act.put, pS]
   refine takeA 1 ?_
   try simp only [Act.put, pS]
   refine takeA 2 ?_
   try simp only [Act.put, pS]
   refine takeA 3 ?_
   try simp only [Act.put, pS]
   refine takeA 4 ?_
   try simp only [Act.put, pS]
   refine takeA 5 ?_
   try simp only [Act.put, pS]
   refine takeA 6 ?_
   try simp only [Act.put, pS]
   refine takeA 9 ?_
   try simp only [Act.put, pS]
   refine takeA 10 ?_
   try simp only [Act.put, pS]
   have HH : Hid (B3 w V 40 #[.bool true, .int .u64 cap0, .slice A0 n0 c0] #[.bool false, .int .u64 0, .slice none 0 0] #[.int .i64 0, .int .u64 0]) := by show B3 _ _ _ _ _ _; rw [← hV]; exact HH.out.drew
   rw [hV] at hHeld ⊢
   clear hV
   have HM : Hid (w.heap.size + 2 < V.heap.size) := HH.out.h7.lt
   refine comeA 7 fun K hK => ?_
   go_simp
   refine (rtwith_any l A0 n0 c0 a b _ ((HR.out.below HH.out.hb).more HH.out.hb.size) (by omega)).mono ?_
   rintro e V1 ⟨v5, rfl, hown, hb⟩
   have HO : Hid (V1.ownsRow V.heap.size 129 2 v5 (insT (a, b) (delT a l)).length (pCells (insT (a, b) (delT a l)))) := hown
   clear hown
   have HH := Lib.hid (HH.out.below hb)
   clear hb
   go_simp
   obtain ⟨A5, c5, rfl, _⟩ := own_slv HO.out
   refine hK.out _ _ ?_ (fun hHeld => ?_)
   ·exact ⟨HH.out.h3.cell 2, HH.out.h3.cell 1⟩
   clear hK K
   try simp only [Act.put, pS]
   refine takeA 8 ?_
   try simp only [Act.put, pS]
   refine comeA 11 fun K hK => ?_
   go_simp
   refine (rbit_any _ _).mono ?_
   rintro e V2 ⟨u, rfl, hV2⟩
   rw [hV2]
   clear hV2 V2
   go_simp
   refine hK.out _ _ ?_ (fun hHeld => ?_)
   ·exact ⟨HH.out.h3.cell 2, HH.out.h3.cell 1⟩
   clear hK K
   try simp only [Act.put, pS]
   refine takeA 12 ?_
   try simp only [Act.put, pS]
   refine comeA 13 fun K hK => ?_
   have qc := c3 HH.out.h6; have e0 := qc.1; have e1 := qc.2.1; have e2 := qc.2.2.1; have f0 := qc.2.2.2.1; have f1 := qc.2.2.2.2.1; have f2 := qc.2.2.2.2.2.1; have kf := qc.2.2.2.2.2.2; clear qc
   go_simp
   clear e0 f0 e1 f1 e2 f2 kf
   obtain ⟨V8, hX⟩ : ∃ X, (((V1.setCell ⟨(w.heap.size + 1), 0, none⟩ (.bool true)).setCell ⟨(w.heap.size + 1), 1, none⟩ (.int .u64 cap0)).setCell ⟨(w.heap.size + 1), 2, none⟩ (.slice A5 ((insT (a, b) (delT a l)).length) c5)) = X := ⟨_, rfl⟩
   have HH : Hid (B3 w V8 40 #[.bool true, .int .u64 cap0, .slice A0 n0 c0] #[.bool true, .int .u64 cap0, .slice A5 ((insT (a, b) (delT a l)).length) c5] #[.int .i64 0, .int .u64 0]) := by show B3 _ _ _ _ _ _; rw [← hX]; exact HH.out.set6 _ _ _
   have HO : Hid (V8.ownsRow V.heap.size 129 2 (.slice A5 ((insT (a, b) (delT a l)).length) c5) (insT (a, b) (delT a l)).length (pCells (insT (a, b) (delT a l)))) := by show World.ownsRow _ _ _ _ _ _ _; rw [← hX]; exact own_set3 HO.out (by have := HM.out; omega) _ _ _
   rw [hX]
   clear hX
   refine hK.out _ _ ?_ (fun hHeld => ?_)
   ·exact ⟨HH.out.h3.cell 2, HH.out.h3.cell 1⟩
   clear hK K
   try simp only [Act.put, pS]
   refine comeA 14 fun K hK => ?_
   have qc := c2 HH.out.h7; have e0 := qc.1; have e1 := qc.2.1; have f0 := qc.2.2.1; have f1 := qc.2.2.2.1; have kf := qc.2.2.2.2; clear qc
   go_simp
   clear e0 f0 e1 f1 kf
   obtain ⟨V9, hX⟩ : ∃ X, ((V8.setCell ⟨(w.heap.size + 2), 0, none⟩ (.int .i64 0)).setCell ⟨(w.heap.size + 2), 1, none⟩ (.int .u64 u)) = X := ⟨_, rfl⟩
   have HH : Hid (B3 w V9 40 #[.bool true, .int .u64 cap0, .slice A0 n0 c0] #[.bool true, .int .u64 cap0, .slice A5 ((insT (a, b) (delT a l)).length) c5] #[.int .i64 0, .int .u64 u]) := by show B3 _ _ _ _ _ _; rw [← hX]; exact HH.out.set7 _ _
   have HO : Hid (V9.ownsRow V.heap.size 129 2 (.slice A5 ((insT (a, b) (delT a l)).length) c5) (insT (a, b) (delT a l)).length (pCells (insT (a, b) (delT a l)))) := by show World.ownsRow _ _ _ _ _ _ _; rw [← hX]; exact own_set2 HO.out (by have := HM.out; omega) _ _
   rw [hX]
   clear hX
   refine hK.out _ _ ?_ (fun hHeld => ?_)
   ·exact ⟨HH.out.h3.cell 2, HH.out.h3.cell 1⟩
   clear hK K
   try simp only [Act.put, pS]
   refine wpAnyH_done (by kernel_rfl) ?_ _
   try simp only [Act.put, pS]
   go_wp2_with ((with_reducible show bodyPost _ _ _ _ _ _); refine bodyPost_ret (results_cc rfl _ V9 (w.heap.size + 1) (w.heap.size + 2) 40 47 #[.bool true, .int .u64 cap0, .slice A5 ((insT (a, b) (delT a l)).length) c5] #[.int .i64 0, .int .u64 u] _ _ (by rfl) HH.out.h6 Tryz.underlying40 rfl (by kernel_rfl) (by rfl) HH.out.h7 Tryz.underlying47 rfl (by kernel_rfl)) rfl ?_; exact ⟨_, _, rfl, (by rw [HE.out]; exact rt_own hL (own_base HO.out (by have := HM.out; omega))), ⟨_, _, rfl⟩, HH.out.hb⟩)
end Go.Proofs.YtiiaingepbkikaaGreatDoor
