import Derived.Test.YtjggmimaolddkaaOrBC
namespace Go.Proofs.Ytjggmimaolddkaa
open Go.RowKit
set_option linter.unusedVariables false
theorem rbit_any (b : Bool) (w : World) : Calls Try.prog 70 #[.bool b] w fun e w' => e = .returned (.int .u64 (if b then 1 else 0)) ∧ w = w' := by
 cases b with
 | true =>
   go_enter Try.func70, Try.ntmps70
   go_wp2
   go_ret
   exact ⟨ret_int rfl, rfl⟩
 | false =>
   go_enter Try.func70, Try.ntmps70
   go_wp2
   go_ret
   exact ⟨ret_int rfl, rfl⟩
def wordOf (i : Ins) (regs : List Int) : Int := if i.op = 12 ∨ i.op = 14 then regs.getD i.c.toNat 0 else i.imm
set_option maxRecDepth 100000 in
set_option maxHeartbeats 4000000 in
theorem rword_any (i : Ins) (regs : List Int) (w : World) (hr : regs.length = 16) (hc : 0 ≤ i.c ∧ i.c < 16) :
 Calls Try.prog 71 #[i.v, .agg (u64s regs).toArray] w fun e w' => e = .returned (.int .u64 (wordOf i regs)) ∧ Below w.heap.size w w' := by
 obtain ⟨op, ia, ib, ic, imm⟩ := i
 simp only at hc ⊢
 obtain ⟨c, rfl⟩ : ∃ c : Nat, ic = (c : Int) := ⟨ic.toNat, by omega⟩
 have hc16 : c < 16 := by omega
 obtain ⟨CR, hCR⟩ : ∃ CR, (u64s regs).toArray = CR := ⟨_, rfl⟩
 have sR : CR.size = 16 := by rw [← hCR]; simp [hr]
 obtain ⟨Y, hY⟩ : ∃ Y, regs.getD c 0 = Y := ⟨_, rfl⟩
 have gY : CR[c]? = some (.int .u64 Y) := by rw [← hCR, ← hY]; exact u64s_get (by omega)
 obtain ⟨W3, hW3⟩ : ∃ W3, (w.alloc (.cells #[.int .i64 op, .int .i64 ia, .int .i64 ib, .int .i64 c, .int .u64 imm] 62)).alloc (.cells CR 50) = W3 := ⟨_, rfl⟩
 have k2 : W3.cell? ⟨w.heap.size + 1, c, none⟩ = some (.int .u64 Y) := by
  rw [← hW3]
  have h1 := (Bk.new (w.alloc (.cells #[.int .i64 op, .int .i64 ia, .int .i64 ib, .int .i64 c, .int .u64 imm] 62)) 50 CR).cell c
  rw [gY] at h1
  simpa using h1
 have k3 : ∀ j : Nat, j < 5 → W3.cell? ⟨w.heap.size, j, none⟩ = #[.int .i64 op, .int .i64 ia, .int .i64 ib, .int .i64 c, .int .u64 imm][j]? := by
  intro j _
  rw [← hW3]
  exact ((Bk.new w 62 #[.int .i64 op, .int .i64 ia, .int .i64 ib, .int .i64 c, .int .u64 imm]).alloc _).cell j
 have q0 := (k3 0 (by omega)).trans rfl
 have q3 := (k3 3 (by omega)).trans rfl
 have q4 := (k3 4 (by omega)).trans rfl
 have hG : Hid (Below w.heap.size w W3) := by show Below _ _ _; rw [← hW3]; exact ((Below.refl _ _).alloc (Nat.le_refl _) _).alloc (by simp) _
 clear k3 gY
 have HW3 := Lib.hid hW3
 have HE : Hid (wordOf ⟨op, ia, ib, c, imm⟩ regs = if op = 12 ∨ op = 14 then Y else imm) := by show _ = _; rw [← hY]; rfl
 clear hW3 hY
 simp only [Ins.v]
 rw [hCR]
 clear hCR
 go_enter Try.func71, Try.ntmps71
 go_upto_region 1 with fail
 rw [HW3.out]
 by_cases h12 : op = 12
 ·subst h12
  go_wp2
  go_ret
  exact ⟨ret_int (by rw [HE.out]; simp), hG.out⟩
 by_cases h14 : op = 14
 ·subst h14
  go_wp2
  go_ret
  exact ⟨ret_int (by rw [HE.out]; simp), hG.out⟩
 have e12 : (op == 12) = false := by simpa using h12
 have e14 : (op == 14) = false := by simpa using h14
 have HF : Hid ((if op = 12 ∨ op = 14 then Y else imm) = imm) := if_neg (by omega)
 clear h12 h14
 go_wp2
 go_ret
 exact ⟨ret_int (HE.out.trans HF.out).symm, hG.out⟩
theorem rf_mod {X Y : Int} (hx : U64 X) (hy : U64 Y) (h : Y ≠ 0) : (X - (Y * (X.tdiv Y % 18446744073709551616) % 18446744073709551616)) % 18446744073709551616 = X % Y := by
 obtain ⟨h1, h2⟩ := hx
 obtain ⟨h3, h4⟩ := hy
 rw [Int.tdiv_eq_ediv_of_nonneg h1]
 have e := Int.emod_add_mul_ediv X Y
 have m1 := Int.emod_nonneg X h
 have m2 := Int.emod_lt_of_pos X (by omega : 0 < Y)
 have q : 0 ≤ Y * (X / Y) := Int.mul_nonneg h3 (Int.ediv_nonneg h1 h3)
 have hq0 := Int.ediv_nonneg h1 h3
 have hq1 : X / Y ≤ X := Int.ediv_le_self Y h1
 rw [Int.emod_eq_of_lt hq0 (by omega)]
 generalize hz : Y * (X / Y) = z at *
 rw [Int.emod_eq_of_lt q (by omega)]
 rw [show X - z = X % Y by omega]
 exact Int.emod_eq_of_lt m1 (by omega)
set_option maxRecDepth 100000 in
set_option maxHeartbeats 8000000 in
theorem rreckon_any (i : Ins) (regs args : List Int) (w : World) (hr : regs.length = 16) (ha : args.length = 4) (hu : ∀ x ∈ regs, U64 x) (ho : 0 ≤ i.op ∧ i.op < 9) (hb : 0 ≤ i.b ∧ i.b < 16) (hc : 0 ≤ i.c ∧ i.c < 16) (hm : i.op = 8 → 0 ≤ i.imm ∧ i.imm < 4) :
 Calls Try.prog 58 #[i.v, .agg (u64s regs).toArray, .agg (u64s args).toArray] w fun e w' => e = .returned (.int .u64 (reckonP i regs args)) ∧ Below w.heap.size w w' := by
 obtain ⟨op, ia, ib, ic, imm⟩ := i
 simp only at hb hc hm ho
 obtain ⟨b, rfl⟩ : ∃ b : Nat, ib = (b : Int) := ⟨ib.toNat, by omega⟩
 obtain ⟨c, rfl⟩ : ∃ c : Nat, ic = (c : Int) := ⟨ic.toNat, by omega⟩
 have hb16 : b < 16 := by omega
 have hc16 : c < 16 := by omega
 obtain ⟨CR, hCR⟩ : ∃ CR, (u64s regs).toArray = CR := ⟨_, rfl⟩
 obtain ⟨CA, hCA⟩ : ∃ CA, (u64s args).toArray = CA := ⟨_, rfl⟩
 have sR : CR.size = 16 := by rw [← hCR]; simp [hr]
 have sA : CA.size = 4 := by rw [← hCA]; simp [ha]
 obtain ⟨X, hX⟩ : ∃ X, regs.getD b 0 = X := ⟨_, rfl⟩
 obtain ⟨Y, hY⟩ : ∃ Y, regs.getD c 0 = Y := ⟨_, rfl⟩
 have uX : U64 X := by rw [← hX]; exact getD_u64 hu b
 have uY : U64 Y := by rw [← hY]; exact getD_u64 hu c
 have gX : CR[b]? = some (.int .u64 X) := by rw [← hCR, ← hX]; exact u64s_get (by omega)
 have gY : CR[c]? = some (.int .u64 Y) := by rw [← hCR, ← hY]; exact u64s_get (by omega)
 obtain ⟨W3, hW3⟩ : ∃ W3, ((w.alloc (.cells #[.int .i64 op, .int .i64 ia, .int .i64 b, .int .i64 c, .int .u64 imm] 62)).alloc (.cells CR 50)).alloc (.cells CA 37) = W3 := ⟨_, rfl⟩
 have k1 : W3.cell? ⟨w.heap.size + 1, b, none⟩ = some (.int .u64 X) := by
  rw [← hW3]
  have h1 := ((Bk.new (w.alloc (.cells #[.int .i64 op, .int .i64 ia, .int .i64 b, .int .i64 c, .int .u64 imm] 62)) 50 CR).alloc (.cells CA 37)).cell b
  rw [gX] at h1
  simpa using h1
 have k2 : W3.cell? ⟨w.heap.size + 1, c, none⟩ = some (.int .u64 Y) := by
  rw [← hW3]
  have h1 := ((Bk.new (w.alloc (.cells #[.int .i64 op, .int .i64 ia, .int .i64 b, .int .i64 c, .int .u64 imm] 62)) 50 CR).alloc (.cells CA 37)).cell c
  rw [gY] at h1
  simpa using h1
 have k3 : ∀ j : Nat, j < 5 → W3.cell? ⟨w.heap.size, j, none⟩ = #[.int .i64 op, .int .i64 ia, .int .i64 b, .int .i64 c, .int .u64 imm][j]? := by
  intro j _
  rw [← hW3]
  exact (((Bk.new w 62 #[.int .i64 op, .int .i64 ia, .int .i64 b, .int .i64 c, .int .u64 imm]).alloc _).alloc _).cell j
 have q0 := (k3 0 (by omega)).trans rfl
 have q2 := (k3 2 (by omega)).trans rfl
 have q3 := (k3 3 (by omega)).trans rfl
 have q4 := (k3 4 (by omega)).trans rfl
 have hG : Hid (Below w.heap.size w W3) := by show Below _ _ _; rw [← hW3]; exact (((Below.refl _ _).alloc (Nat.le_refl _) _).alloc (by simp) _).alloc (by simp; omega) _
 have hS : Hid (w.heap.size < W3.heap.size) := by show _ < _; rw [← hW3]; simp; omega
 have hBk : Hid (Bk W3 w.heap.size 62 #[.int .i64 op, .int .i64 ia, .int .i64 b, .int .i64 c, .int .u64 imm]) := by show Bk _ _ _ _; rw [← hW3]; exact (((Bk.new w 62 _).alloc _).alloc _)
 clear k3 gX gY
 have HW3 := Lib.hid hW3
 have HE : Hid (reckonP ⟨op, ia, b, c, imm⟩ regs args = if op = 0 then imm else if op = 1 then X else if op = 2 then wrapU (X + Y) else if op = 3 then wrapU (X - Y) else if op = 4 then wrapU (X * Y) else if op = 5 then (if Y = 0 then X else X % Y) else if op = 6 then (if X = Y then 1 else 0) else if op = 7 then (if X < Y then 1 else 0) else if op = 8 then args.getD imm.toNat 0 else 0) := by
  show _ = _
  rw [← hX, ← hY]; rfl
 have HA := Lib.hid hCA
 have HM := Lib.hid hm
 have HU := Lib.hid (And.intro uX uY)
 clear hW3 hX hY hu hm uX uY
 simp only [Ins.v]
 rw [hCR, hCA]
 clear hCR hCA
 go_enter Try.func58, Try.ntmps58
 go_upto_region 1 with fail
 rw [HW3.out]
 go_upto_region 3 with fail
 by_cases h0 : op = 0
 ·subst h0
  go_wp2
  go_ret
  exact ⟨ret_int HE.out.symm, hG.out⟩
 by_cases h8 : op = 8
 ·obtain ⟨hm0, hm4⟩ := HM.out h8
  subst h8
  obtain ⟨m, rfl⟩ : ∃ m : Nat, imm = (m : Int) := ⟨imm.toNat, by omega⟩
  have hm4' : m < 4 := by omega
  obtain ⟨Z, hZ⟩ : ∃ Z, args.getD m 0 = Z := ⟨_, rfl⟩
  have k5 : W3.cell? ⟨w.heap.size + 1 + 1, m, none⟩ = some (.int .u64 Z) := by
   rw [← HW3.out]
   have h1 := (Bk.new ((w.alloc (.cells #[.int .i64 8, .int .i64 ia, .int .i64 b, .int .i64 c, .int .u64 m] 62)).alloc (.cells CR 50)) 37 CA).cell m
   rw [← HA.out, u64s_get (by omega), hZ, HA.out] at h1
   simpa using h1
  have HF : Hid (reckonP ⟨8, ia, b, c, m⟩ regs args = Z) := by show _ = _; rw [HE.out]; simpa using hZ
  clear hZ
  go_wp2
  go_ret
  exact ⟨ret_int HF.out.symm, hG.out⟩
 have e0 : (op == 0) = false := by simpa using h0
 have e8 : (op == 8) = false := by simpa using h8
 by_cases h5 : op = 5 ∧ 0 < Y
 ·obtain ⟨rfl, hY0⟩ := h5
  have HF : Hid (reckonP ⟨5, ia, b, c, imm⟩ regs args = (X - (Y * (X.tdiv Y % 18446744073709551616) % 18446744073709551616)) % 18446744073709551616) := by
   show _ = _
   rw [HE.out, rf_mod HU.out.1 HU.out.2 (by omega)]
   have : ¬ Y = 0 := by omega
   simp [this]
  have hy0 : (Y == 0) = false := beq_eq_false_iff_ne.2 (by omega)
  have hyd : decide (0 < Y) = true := decide_eq_true hY0
  clear h0 h8 e0 e8
  go_wp2
  go_ret
  exact ⟨ret_int (by rw [HF.out, ← IntKind.wrap_u64, ← IntKind.wrap_u64, ← IntKind.wrap_u64]), hG.out⟩
 have HQ : Hid (op = 1 ∨ op = 2 ∨ op = 3 ∨ op = 4 ∨ op = 6 ∨ op = 7 ∨ (op = 5 ∧ Y = 0)) := by show _ ∨ _; have := HU.out.2.1; omega
 have hop0 : 0 ≤ op := ho.1
 have c57 : ((op == 5) && decide (0 < Y)) = false := by
  by_cases h5' : op = 5
  ·rw [decide_eq_false (fun hy => h5 ⟨h5', hy⟩), Bool.and_false]
  ·rw [show (op == 5) = false by simpa using h5', Bool.false_and]
 obtain ⟨z6, hz6⟩ : ∃ z : Int, (if (X == Y) = true then 1 else 0) = z := ⟨_, rfl⟩
 obtain ⟨z7, hz7⟩ : ∃ z : Int, (if decide (X < Y) = true then 1 else 0) = z := ⟨_, rfl⟩
 have HB6 : Hid (∀ w, Calls Try.prog 70 #[.bool (X == Y)] w fun e w' => e = .returned (.int .u64 z6) ∧ w = w') := fun w => by rw [← hz6]; exact rbit_any _ w
 have HB7 : Hid (∀ w, Calls Try.prog 70 #[.bool (decide (X < Y))] w fun e w' => e = .returned (.int .u64 z7) ∧ w = w') := fun w => by rw [← hz7]; exact rbit_any _ w
 have HZ6 := Lib.hid hz6
 have HZ7 := Lib.hid hz7
 obtain ⟨W4, hW4⟩ : ∃ W4, W3.alloc (.cells #[.int .u64 0, .int .u64 X, .int .u64 (IntKind.u64.wrap (X + Y)), .int .u64 (IntKind.u64.wrap (X - Y)), .int .u64 (IntKind.u64.wrap (X * Y)), .int .u64 X, .int .u64 z6, .int .u64 z7] 31) = W4 := ⟨_, rfl⟩
 have hR4 : Bk W4 W3.heap.size 31 #[.int .u64 0, .int .u64 X, .int .u64 (IntKind.u64.wrap (X + Y)), .int .u64 (IntKind.u64.wrap (X - Y)), .int .u64 (IntKind.u64.wrap (X * Y)), .int .u64 X, .int .u64 z6, .int .u64 z7] := by rw [← hW4]; exact Bk.new _ _ _
 have q40 : W4.cell? ⟨w.heap.size, 0, none⟩ = some (.int .i64 op) := by rw [← hW4]; exact (hBk.out.alloc _).cell 0
 have r1 : W4.cell? ⟨W3.heap.size, 1, none⟩ = some (.int .u64 X) := hR4.cell 1
 have r2 : W4.cell? ⟨W3.heap.size, 2, none⟩ = some (.int .u64 (IntKind.u64.wrap (X + Y))) := hR4.cell 2
 have r3 : W4.cell? ⟨W3.heap.size, 3, none⟩ = some (.int .u64 (IntKind.u64.wrap (X - Y))) := hR4.cell 3
 have r4 : W4.cell? ⟨W3.heap.size, 4, none⟩ = some (.int .u64 (IntKind.u64.wrap (X * Y))) := hR4.cell 4
 have r5 : W4.cell? ⟨W3.heap.size, 5, none⟩ = some (.int .u64 X) := hR4.cell 5
 have r6 : W4.cell? ⟨W3.heap.size, 6, none⟩ = some (.int .u64 z6) := hR4.cell 6
 have r7 : W4.cell? ⟨W3.heap.size, 7, none⟩ = some (.int .u64 z7) := hR4.cell 7
 have hG4 : Hid (Below w.heap.size w W4) := by show Below _ _ _; rw [← hW4]; exact hG.out.alloc hG.out.size _
 have HW4 := Lib.hid hW4
 clear hz6 hz7 hW4 hR4
 by_cases h55 : op = 5
 ·subst h55
  have hY : Y = 0 := by rcases HQ.out with h | h | h | h | h | h | ⟨_, h⟩ <;> first | exact h | omega
  have hd : decide (0 < Y) = false := by rw [hY]; rfl
  have HF : Hid (reckonP ⟨5, ia, b, c, imm⟩ regs args = X) := by show _ = _; rw [HE.out, hY]; rfl
  clear hY h5 h0 h8 c57 e0 e8
  go_wp2_with fail
  refine (HB6.out _).mono ?_
  rintro e w' ⟨rfl, rfl⟩
  go_wp2_with fail
  refine (HB7.out _).mono ?_
  rintro e w' ⟨rfl, rfl⟩
  go_upto_region 10 with fail
  rw [HW4.out]
  go_wp2
  go_ret
  exact ⟨ret_int (HF.out.symm), hG4.out⟩
 have e5 : (op == 5) = false := by simpa using h55
 have HQ2 : Hid (op = 1 ∨ op = 2 ∨ op = 3 ∨ op = 4 ∨ op = 6 ∨ op = 7) := by show _ ∨ _; have := HQ.out; omega
 go_wp2_with fail
 refine (HB6.out _).mono ?_
 rintro e w' ⟨rfl, rfl⟩
 go_wp2_with fail
 refine (HB7.out _).mono ?_
 rintro e w' ⟨rfl, rfl⟩
 go_upto_region 10 with fail
 rw [HW4.out]
 rcases HQ2.out with h | h | h | h | h | h
 ·subst h
  go_wp2
  go_ret
  exact ⟨ret_int (HE.out.symm), hG4.out⟩
 ·subst h
  go_wp2
  go_ret
  exact ⟨ret_int (by rw [HE.out, wrapU, ← IntKind.wrap_u64]; rfl), hG4.out⟩
 ·subst h
  go_wp2
  go_ret
  exact ⟨ret_int (by rw [HE.out, wrapU, ← IntKind.wrap_u64]; rfl), hG4.out⟩
 ·subst h
  go_wp2
  go_ret
  exact ⟨ret_int (by rw [HE.out, wrapU, ← IntKind.wrap_u64]; rfl), hG4.out⟩
 ·subst h
  go_wp2
  go_ret
  exact ⟨ret_int (by rw [HE.out, ← HZ6.out]; simp), hG4.out⟩
 ·subst h
  go_wp2
  go_ret
  exact ⟨ret_int (by rw [HE.out, ← HZ7.out]; simp), hG4.out⟩
end Go.Proofs.Ytjggmimaolddkaa
namespace Go.Proofs.Ytjggmimaolddkaa
open Go.RowKit
set_option linter.unusedVariables false
/-! ### the head of a block is stored -/
section
variable {P : Program}
theorem rf_storeVar_seg (w : World) (g : Nat) (t ty : TypeId) (old cells new : Array Value) (hg : w.heap[g]? = some (.cells old t (0, 0))) (hi : (P.info? ty).map (·.size) = some cells.size)
 (ho : cells.size ≤ old.size) (h1 : cells.all (·.oneCell') = true) (hn : (cells.toList ++ old.toList.drop cells.size).toArray = new) :
 (storeVar ty ⟨g, 0, none⟩ (.agg cells)).run P w = .ok () (w.setRow g new) := by
 have := run_storeCells_at P g 0 t cells.toList 0 old w hg (by simpa using ho) (fun v hv => (Array.all_eq_true_iff_forall_mem.1 h1) v (by simpa using hv))
 simp only [Nat.add_zero, List.take_zero, List.nil_append, Nat.zero_add, Array.length_toList, hn] at this
 cases hq : P.info? ty with
 | none => simp [hq] at hi
 | some i =>
   have hs : cells.size = i.size := by simp [hq] at hi; omega
   simp [storeVar, sizeOf, typeInfo, hq, Value.cells, hs, this]
theorem wpList_store_seg {ops : Array Oper} {rest : List Oper} {o : Oper} {a : Act} {w : World} {Q : Exit → Act → World → Prop} (hgd : o.guard = none) (ty : TypeId) (x y : Operand) (ho : o.op = .store ty x y)
 (g : Nat) (cells : Array Value) (hx : a.eval x = .pointer (some ⟨g, 0, none⟩)) (hy : a.eval y = .agg cells)
 (t : TypeId) (old new : Array Value) (hg : w.heap[g]? = some (.cells old t (0, 0))) (hi : (P.info? ty).map (·.size) = some cells.size)
 (hold : cells.size ≤ old.size) (h1 : cells.all (·.oneCell') = true) (hn : (cells.toList ++ old.toList.drop cells.size).toArray = new)
 (h : wpList P ops Q rest (a.put o.dst undef) (w.setRow g new)) : wpList P ops Q (o :: rest) a w :=
 wpList_plain hgd fun _ hK => by
  unfold Oper.wp execOp
  simp only [ho, hx, hy, Instr.storeAt, Instr.sureAddr, Sem.run_bind, Sem.run_pure, Result.andThen_ok, rf_storeVar_seg w g t ty old cells new hg hi hold h1 hn]
  exact hK _ _ h
end
/-! ### a block that is a run -/
abbrev RUN : TypeId := 87
structure BkC (w : World) (g : Nat) (c : RR) : Prop where
 bk : Bk w g RUN c.cells.toArray
 sz : c.Sz
section
variable {w w' : World} {g : Nat} {c : RR} (h : BkC w g c)
include h
theorem BkC.any (k : Nat) : w.cell? ⟨g, k, none⟩ = c.cells[k]? := by rw [h.bk.cell]; simp
theorem BkC.root {k : Nat} (hk : k < 16) : w.cell? ⟨g, k, none⟩ = some (.int .u64 (c.roots.getD k 0)) := (h.any _).trans (RR.at_root h.sz hk)
theorem BkC.bv : w.cell? ⟨g, 16, none⟩ = some c.bv := (h.any _).trans (RR.at_bv h.sz)
theorem BkC.pc : w.cell? ⟨g, 17, none⟩ = some (.int .i64 c.pc) := (h.any _).trans (RR.at_pc h.sz)
theorem BkC.reg {k : Nat} (hk : k < 16) : w.cell? ⟨g, 18 + k, none⟩ = some (.int .u64 (c.regs.getD k 0)) := (h.any _).trans (RR.at_reg h.sz hk)
theorem BkC.steps : w.cell? ⟨g, 34, none⟩ = some (.int .i64 c.steps) := (h.any _).trans (RR.at_tail h.sz 0)
theorem BkC.writes : w.cell? ⟨g, 35, none⟩ = some (.int .i64 c.writes) := (h.any _).trans (RR.at_tail h.sz 1)
theorem BkC.nv : w.cell? ⟨g, 36, none⟩ = some c.nv := (h.any _).trans (RR.at_tail h.sz 2)
theorem BkC.pv : w.cell? ⟨g, 37, none⟩ = some c.pv := (h.any _).trans (RR.at_tail h.sz 3)
theorem BkC.ended : w.cell? ⟨g, 38, none⟩ = some (.bool c.ended) := (h.any _).trans (RR.at_tail h.sz 4)
theorem BkC.val : w.cell? ⟨g, 39, none⟩ = some (.int .u64 c.val) := (h.any _).trans (RR.at_tail h.sz 5)
theorem BkC.err : w.cell? ⟨g, 40, none⟩ = some (.int .i64 c.e) := (h.any _).trans (RR.at_tail h.sz 6)
theorem BkC.st : w.rangeAt g 0 (stV c.roots c.bv) := by
 intro j v hv
 rw [Nat.zero_add, h.any]
 have hj : j < 17 := by
  have := (List.getElem?_eq_some_iff.1 hv).1
  simpa [stV, h.sz.roots] using this
 rw [show c.cells = stV c.roots c.bv ++ (.int .i64 c.pc :: (u64s c.regs ++ c.tail)) by simp [RR.cells, stV], List.getElem?_append_left (List.getElem?_eq_some_iff.1 hv).1]
 exact hv
theorem BkC.rg : w.rangeAt g 18 (u64s c.regs) := by
 intro j v hv
 have hj := (List.getElem?_eq_some_iff.1 hv).1
 have hj16 : j < 16 := by simpa [h.sz.regs] using hj
 rw [h.reg hj16, ← hv]
 simp [u64s, h.sz.regs, hj16]
theorem BkC.setAny {c' : RR} {k : Nat} {v : Value} (hs : c.cells.set k v = c'.cells) (h1 : c'.roots.length = 16) (h2 : c'.regs.length = 16) : BkC (w.setCell ⟨g, k, none⟩ v) g c' := by
 refine ⟨?_, h1, h2⟩
 have := h.bk.set_ k v
 rw [List.setIfInBounds_toArray, hs] at this
 exact this
theorem BkC.grown {row : Option Nat} (hg : w.grownBy w' row) (hne : row ≠ some g) : BkC w' g c := ⟨h.bk.grown hg hne, h.sz⟩
theorem BkC.alloc (o : Obj) : BkC (w.alloc o) g c := ⟨h.bk.alloc o, h.sz⟩
theorem BkC.lt : g < w.heap.size := h.bk.lt
theorem BkC.below (hb : Below w.heap.size w w') : BkC w' g c := ⟨h.bk.below hb h.bk.lt, h.sz⟩
theorem BkC.setRow {c' : RR} (h' : c'.Sz) : BkC (w.setRow g c'.cells.toArray) g c' := ⟨h.bk.setRow _, h'⟩
theorem BkC.setRow_ne {k : Nat} (hne : g ≠ k) (cs : Array Value) : BkC (w.setRow k cs) g c := ⟨h.bk.setRow_ne hne _, h.sz⟩
end
theorem BkC.drewN {w : World} {g : Nat} {c : RR} (h : BkC w g c) (n : Nat) : BkC (w.drewN n) g c := ⟨h.bk, h.sz⟩
theorem BkC.drew {w : World} {g : Nat} {c : RR} (h : BkC w g c) : BkC w.drew g c := ⟨h.bk, h.sz⟩
theorem RR.one (c : RR) (hb : c.bv.oneCell' = true) (hn : c.nv.oneCell' = true) (hp : c.pv.oneCell' = true) : c.cells.toArray.all (·.oneCell') = true := by
 rw [Array.all_eq_true_iff_forall_mem]
 intro v hv
 simp only [RR.cells, RR.tail, List.mem_toArray, List.mem_append, List.mem_cons, List.mem_map, u64s, List.not_mem_nil, or_false] at hv
 rcases hv with ⟨x, _, rfl⟩ | rfl | rfl | ⟨x, _, rfl⟩ | rfl | rfl | rfl | rfl | rfl | rfl | rfl <;> first | rfl | assumption
theorem RR.seg {c : RR} (h : c.Sz) {roots : List Int} (hr : roots.length = 16) (bv : Value) :
 ((stV roots bv).toArray.toList ++ c.cells.toArray.toList.drop (stV roots bv).toArray.size).toArray = ({ c with roots := roots, bv := bv } : RR).cells.toArray := by
 congr 1
 rw [stV_len hr, List.toList_toArray, List.toList_toArray, show c.cells = stV c.roots c.bv ++ (.int .i64 c.pc :: (u64s c.regs ++ c.tail)) by simp [RR.cells, stV]]
 rw [List.drop_append_of_le_length (by simp [stV, h.roots]), List.drop_of_length_le (by simp [stV, h.roots])]
 simp [RR.cells, RR.tail, stV]
theorem info_run17 {c : RR} (h : c.Sz) : (Try.prog.info? RUN).map (·.size) = some c.cells.toArray.size := by
 rw [List.size_toArray, RR.len h]; kernel_rfl
theorem res_run (p : Tmp) {fn : Func} (hr : fn.results = #[.cell p RUN]) (tmps : Array Value) (w : World) (g : Nat) (c : RR) (hp : tmps.getD p undef = .pointer (some ⟨g, 0, none⟩)) (hg : BkC w g c) :
 (results fn tmps).run Try.prog w = .ok (.agg c.cells.toArray) w :=
 results_cell_row hr tmps w g RUN c.cells.toArray (0, 0) _ hp hg.bk Try.underlying87 rfl (info_run17 hg.sz)
/-! ### what run it is -/
structure RVIn (w : World) (B : Nat) (c : RR) (r : MRun) : Prop where
 sz : c.Sz
 roots : c.roots = r.st.roots
 regs : c.regs = r.regs
 pc : c.pc = r.pc
 steps : c.steps = r.steps
 writes : c.writes = r.writes
 ended : c.ended = r.ended
 val : c.val = r.val
 err : c.e = r.code
 box : ∃ A n k l, c.bv = .slice A n k ∧ RdX w B A n l ∧ BX r.st.blocks l
 news : ∃ A k, c.nv = .slice A r.news.length k ∧ RdU w B A r.news.length r.news ∧ r.news.length ≤ k
 pick : ∃ A k, c.pv = .slice A r.pick.length k ∧ RdU w B A r.pick.length r.pick ∧ r.pick.length ≤ k
 few : Few64 r.st
theorem RVIn.below {w w' : World} {B : Nat} {c : RR} {r : MRun} (h : RVIn w B c r) (hb : Below B w w') : RVIn w' B c r := by
 obtain ⟨A, n, k, l, e1, h1, h2⟩ := h.box
 obtain ⟨A', k', e3, h3, h4⟩ := h.news
 obtain ⟨A'', k'', e5, h5, h6⟩ := h.pick
 exact ⟨h.sz, h.roots, h.regs, h.pc, h.steps, h.writes, h.ended, h.val, h.err, ⟨A, n, k, l, e1, h1.below hb, h2⟩, ⟨A', k', e3, h3.below hb, h4⟩, ⟨A'', k'', e5, h5.below hb, h6⟩, h.few⟩
theorem RVIn.more {w : World} {B B' : Nat} {c : RR} {r : MRun} (h : RVIn w B c r) (hB : B ≤ B') : RVIn w B' c r := by
 obtain ⟨A, n, k, l, e1, h1, h2⟩ := h.box
 obtain ⟨A', k', e3, h3, h4⟩ := h.news
 obtain ⟨A'', k'', e5, h5, h6⟩ := h.pick
 exact ⟨h.sz, h.roots, h.regs, h.pc, h.steps, h.writes, h.ended, h.val, h.err, ⟨A, n, k, l, e1, h1.more hB, h2⟩, ⟨A', k', e3, h3.more hB, h4⟩, ⟨A'', k'', e5, h5.more hB, h6⟩, h.few⟩
theorem RVIn.ones {w : World} {B : Nat} {c : RR} {r : MRun} (h : RVIn w B c r) : c.cells.toArray.all (·.oneCell') = true := by
 obtain ⟨A, n, k, l, e1, h1, h2⟩ := h.box
 obtain ⟨A', k', e3, h3, h4⟩ := h.news
 obtain ⟨A'', k'', e5, h5, h6⟩ := h.pick
 exact c.one (by rw [e1]; rfl) (by rw [e3]; rfl) (by rw [e5]; rfl)
def SlIn (S : Nat → Prop) (v : Value) : Prop := ∀ a n k, v = .slice (some a) n k → 0 < n → S a.block
structure SIn (S : Nat → Prop) (c : RR) : Prop where
 bv : SlIn S c.bv
 nv : SlIn S c.nv
 pv : SlIn S c.pv
theorem SlIn.mono {S T : Nat → Prop} {v : Value} (h : SlIn S v) (hT : ∀ b, S b → T b) : SlIn T v := fun a n k e hn => hT _ (h a n k e hn)
theorem SIn.mono {S T : Nat → Prop} {c : RR} (h : SIn S c) (hT : ∀ b, S b → T b) : SIn T c := ⟨h.bv.mono hT, h.nv.mono hT, h.pv.mono hT⟩
theorem SIn.of {S : Nat → Prop} {c c' : RR} (h : SIn S c) (h1 : c'.bv = c.bv) (h2 : c'.nv = c.nv) (h3 : c'.pv = c.pv) : SIn S c' := ⟨by rw [h1]; exact h.bv, by rw [h2]; exact h.nv, by rw [h3]; exact h.pv⟩
theorem SIn.keep {S T : Nat → Prop} {c c' : RR} (h : SIn S c) (h1 : c'.bv = c.bv) (h2 : c'.nv = c.nv) (h3 : c'.pv = c.pv) : SIn (fun b => S b ∨ T b) c' := (h.of h1 h2 h3).mono fun _ hb => Or.inl hb
theorem Rd.keepS {S : Nat → Prop} {w V : World} {size n k : Nat} {A : Option Addr} {xs : List Value} (h : Rd w w.heap.size size A n xs) (hs : SlIn S (.slice A n k)) (hV : ∀ p : Addr, S p.block → V.cell? p = w.cell? p) (hz : w.heap.size ≤ V.heap.size) : Rd V V.heap.size size A n xs := by
 refine ⟨h.len, h.le, fun h0 => ?_⟩
 obtain ⟨b, o, e, hb, hc⟩ := h.at_ h0
 refine ⟨b, o, e, by omega, fun j u hu => ?_⟩
 rw [hV ⟨b, o + j, none⟩ (hs ⟨b, o, none⟩ n k (by rw [e]) h0)]
 exact hc j u hu
theorem RVIn.keepS {S : Nat → Prop} {w V : World} {c : RR} {r : MRun} (h : RVIn w w.heap.size c r) (hs : SIn S c) (hV : ∀ p : Addr, S p.block → V.cell? p = w.cell? p) (hz : w.heap.size ≤ V.heap.size) : RVIn V V.heap.size c r := by
 obtain ⟨A, n, k, l, e1, h1, h2⟩ := h.box
 obtain ⟨A', k', e3, h3, h4⟩ := h.news
 obtain ⟨A'', k'', e5, h5, h6⟩ := h.pick
 exact ⟨h.sz, h.roots, h.regs, h.pc, h.steps, h.writes, h.ended, h.val, h.err, ⟨A, n, k, l, e1, ⟨h1.rd.keepS (e1 ▸ hs.bv) hV hz, h1.len, h1.ok⟩, h2⟩, ⟨A', k', e3, h3.keepS (e3 ▸ hs.nv) hV hz, h4⟩, ⟨A'', k'', e5, h5.keepS (e5 ▸ hs.pv) hV hz, h6⟩, h.few⟩
theorem SlIn.own {w : World} {base size n k : Nat} {e : TypeId} {A : Option Addr} {xs : List Value} (h : w.ownsRow base e size (.slice A n k) n xs) {S : Nat → Prop} (hS : ∀ b, base ≤ b → S b) : SlIn S (.slice A n k) := by
 intro a n' k' e' hn
 injection e' with e1 e2 e3
 subst e1
 exact hS _ (h.lt _ rfl).1
def RunP (S : Nat → Prop) (r : MRun) (w : World) (e : Ending) (w' : World) : Prop := ∃ c, e = .returned (.agg c.cells.toArray) ∧ RVIn w' w'.heap.size c r ∧ SIn (fun b => S b ∨ w.heap.size ≤ b) c ∧ Below w.heap.size w w'
theorem few_len {w : World} {B n : Nat} {A : Option Addr} {s : MSt} {l : List PBox} (h : BX s.blocks l) (hf : Few64 s) (hx : RdX w B A n l) : n ≤ 65 := by
 rw [← hx.len, h.len hf]
 exact live_le s
end Go.Proofs.Ytjggmimaolddkaa
