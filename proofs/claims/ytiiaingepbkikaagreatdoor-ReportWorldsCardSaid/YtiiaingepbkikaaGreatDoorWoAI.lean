import Derived.Test.YtiiaingepbkikaaGreatDoorWoAH
import Derived.Deep.RegionHeld3
import Derived.Deep.RegionLaw
import Derived.Laws.Externs
namespace Go.Proofs.YtiiaingepbkikaaGreatDoor
open Go.RowKit
set_option linter.unusedVariables false
set_option linter.unusedSimpArgs false
theorem wp_appE {P : Program} {w w' : World} {a : Act} {K : Act → World → Prop} {Q : Exit → Act → World → Prop} {ty : TypeId} {d : Option Tmp} (x y : Operand) (t u : TypeId) (v1 v2 v' : Value) (hx : a.eval x = v1) (hy : a.eval y = v2)
 (hr : (Builtin.append_ #[t, u] ty #[v1, v2]).run P w = .ok v' w') (h : K (a.put d v') w') :
 Oper.wp P { bareOp (.call { callee := .builtin .append, args := #[x, y], argTypes := #[t, u] }) ty with dst := d } a w K Q := by
 unfold Oper.wp execOp
 simp only [resolve, invoke, builtin, Sem.run_bind, Sem.run_pure, Result.andThen_ok, List.map_toArray, List.map_cons, List.map_nil, hx, hy, hr]
 exact h
theorem cut_k {P : Program} {w : World} {B size n c : Nat} {A : Option Addr} {xs : List Value} (T : TypeId) (hT : P.underlying T = some (.slice (P.elem T))) (hs : ∀ W : World, (sizeOf (P.elem T)).run P W = .ok size W) (hr : Rd w B size A n xs) (hnc : n ≤ c) (k : Nat) (z : Int) (hz : z = k) (hk : k ≤ n) (hA : A ≠ none) :
 ∃ ad : Addr, (∀ W : World, (Instr.sliceAt T (.slice A n c) (some (.int .i64 z)) none none).run P W = .ok (.slice (some ad) (n - k) (c - k)) W) ∧ Rd w B size (some ad) (n - k) (xs.drop (k * size)) := by
 obtain ⟨A', h1, h2⟩ := cut_l T hT hs hr hnc k z hz hk
 rcases A' with _ | ad
 ·rcases A with _ | a
  ·exact absurd rfl hA
  ·have h3 := h1 w
   subst hz
   rw [run_sliceAt_slice w T _ _ _ _ hT, run_slice_l w T _ n c hT .i64 k (by omega) (by omega), hs] at h3
   simp [Result.andThen, sliced] at h3
   split at h3 <;> simp at h3
 ·exact ⟨ad, h1, h2⟩
theorem rd_src {w : World} {B size m : Nat} {ad : Addr} {news : List Value} (hr : Rd w B size (some ad) m news) : ∀ j u, news[j]? = some u → w.cell? (ad.add j) = some u := by
 rcases Nat.eq_zero_or_pos m with h0 | h0
 ·intro j u hu
  have := hr.len
  rw [h0, Nat.zero_mul] at this
  rw [List.eq_nil_of_length_eq_zero this] at hu
  simp at hu
 ·exact rd_cells _ hr h0
theorem take_seg {α : Type} (L zs R : List α) (o : Nat) (h : o ≤ L.length) : (L.take o ++ zs ++ R).take o = L.take o := by
 have hl : (L.take o).length = o := by rw [List.length_take]; omega
 rw [List.append_assoc, List.take_append_of_le_length (by omega), List.take_take, Nat.min_self]
theorem seg_len {α : Type} (L zs : List α) (o : Nat) (h : o + zs.length ≤ L.length) : (L.take o ++ zs ++ L.drop (o + zs.length)).length = L.length := by
 simp only [List.length_append, List.length_take, List.length_drop]
 omega
theorem take_len {α : Type} {l r : List α} {n : Nat} (h : l.length = n) : (l ++ r).take n = l := by rw [← h]; exact List.take_left
theorem drop_len {α : Type} {l r : List α} {n : Nat} (h : l.length = n) : (l ++ r).drop n = r := by rw [← h]; exact List.drop_left
theorem ins_room {α : Type} (cur ys : List α) (o p : Nat) (z : Nat) (hz : ys.length = z) (ho : o ≤ p) (hp : p + z ≤ cur.length) (row1 : List α)
 (h1 : row1 = cur.take (o + z) ++ (cur.take p).drop o ++ cur.drop (o + z + ((cur.take p).drop o).length)) :
 (row1.take o ++ ys ++ row1.drop (o + ys.length)).take (p + z) = (cur.take p).take o ++ ys ++ (cur.take p).drop o ∧ row1.length = cur.length := by
 have hS : ((cur.take p).drop o).length = p - o := by rw [List.length_drop, List.length_take]; omega
 have hT : (cur.take (o + z)).length = o + z := by rw [List.length_take]; omega
 have e1 : row1.take o = (cur.take p).take o := by
  rw [h1, List.append_assoc, List.take_append_of_le_length (by omega), List.take_take, List.take_take]
  congr 1; omega
 have e2 : row1.drop (o + ys.length) = (cur.take p).drop o ++ cur.drop (o + z + ((cur.take p).drop o).length) := by
  rw [h1, hz, List.append_assoc]; exact drop_len hT
 constructor
 ·rw [e1, e2, ← List.append_assoc]
  refine take_len ?_
  simp only [List.length_append, hS, hz, List.length_take]
  omega
 ·rw [h1]
  simp only [List.length_append, hT, hS, List.length_drop]
  omega
theorem ins_grow {α : Type} (xs ys R : List α) (o p : Nat) (z : Nat) (hz : ys.length = z) (ho : o ≤ p) (hx : xs.length = p) (hR : R.take o = xs.take o) (hp : p + z ≤ R.length) (row1 : List α)
 (h1 : row1 = R.take o ++ ys ++ R.drop (o + ys.length)) :
 (row1.take (o + z) ++ xs.drop o ++ row1.drop (o + z + (xs.drop o).length)).take (p + z) = xs.take o ++ ys ++ xs.drop o ∧ row1.length = R.length ∧ (row1.take (o + z) ++ xs.drop o ++ row1.drop (o + z + (xs.drop o).length)).length = R.length := by
 have hS : (xs.drop o).length = p - o := by rw [List.length_drop]; omega
 have hT : (R.take o).length = o := by rw [List.length_take]; omega
 have hl : row1.length = R.length := by
  rw [h1]
  simp only [List.length_append, hT, List.length_drop]
  omega
 have e1 : row1.take (o + z) = xs.take o ++ ys := by
  rw [h1, hR]
  exact take_len (by rw [List.length_append, List.length_take]; omega)
 refine ⟨?_, hl, ?_⟩
 ·rw [e1]
  refine take_len ?_
  simp only [List.length_append, hS, hz, List.length_take]
  omega
 ·rw [e1]
  simp only [List.length_append, hS, hz, List.length_take, List.length_drop, hl]
  omega
theorem cells_at {w : World} {g o p : Nat} {cur : Array Value} {e : TypeId} (h : w.heap[g]? = some (.cells cur e (0, 0))) {j : Nat} {u : Value} (hu : ((cur.toList.take p).drop o)[j]? = some u) : w.cell? ⟨g, o + j, none⟩ = some u := by
 rw [List.getElem?_drop, List.getElem?_take] at hu
 split at hu
 ·simp [World.cell?, h]
  simpa using hu
 ·cases hu
theorem own_drew {w : World} {base size n : Nat} {e : TypeId} {v : Value} {xs : List Value} (h : w.ownsRow base e size v n xs) : w.drew.ownsRow base e size v n xs := own_below h (Below.refl _ _).drew
theorem elem_U : Tryz.prog.underlying 33 = some (.slice (Tryz.prog.elem 33)) := by kernel_rfl
theorem size_U (W : World) : (sizeOf (Tryz.prog.elem 33)).run Tryz.prog W = .ok 1 W := by kernel_rfl
theorem zc_U : (Builtin.zeroCells ((.int .u64 0 : Value)).cells 1).toList = [Value.int .u64 0] := by simp [Builtin.zeroCells, Value.cells]
def DelU (base : Nat) (v : Value) (n i : Nat) (xs : List Value) (w : World) (e : Ending) (w' : World) : Prop :=
 ∃ v', e = .returned v' ∧ w'.ownsRow base 32 1 v' (n - 1) (xs.take (i * 1) ++ xs.drop ((i + 1) * 1)) ∧ w.grownBy w' v.ownBlock
set_option maxRecDepth 100000 in
set_option maxHeartbeats 4000000 in
theorem delU_any (base : Nat) (v : Value) (n i : Nat) (xs : List Value) (w : World) (hown : w.ownsRow base 32 1 v n xs) (hi : i < n) (hn : n ≤ 1000) (h1 : ∀ u ∈ xs, u.oneCell' = true) (hbase : base ≤ w.heap.size) :
 Calls Tryz.prog 82 #[v, .int .i64 (i : Int), .int .i64 ((i : Int) + 1)] w (DelU base v n i xs w) := by
 obtain ⟨i0, hi0, hy0, hy1, hy2⟩ := info_parts info_u64
 obtain ⟨A, c, rfl, hsv, hrd⟩ := own_slv hown
 have hA : A ≠ none := fun e => by have := hsv.2 e; have := hsv.1; omega
 obtain ⟨g, cur, rfl, hbg, hg, hnc, hcm, hcs, hx⟩ := own_open hown hA
 have HOwn := Lib.hid hown
 have HRd := Lib.hid hrd
 have H1 := Lib.hid h1
 clear hg hcs hx hown hrd hA hsv h1
 go_enter Tryz.func82, Tryz.ntmps82
 go_wp2
 obtain ⟨ad, hcut, hrd⟩ := cut_k (P := Tryz.prog) 33 elem_U size_U HRd.out hnc (i + 1) ((i : Int) + 1) (by omega) (by omega) (by simp)
 have hhead := cut_head (P := Tryz.prog) 33 elem_U size_U (some ⟨g, 0, none⟩) n c i (i : Int) rfl (by omega)
 have HRd2 := Lib.hid hrd
 clear hrd
 refine wp_region_held_drew (S := (fun _ => True)) (by kernel_rfl) ?_ (fun hHeld => ?_)
 ·trivial
 refine takeA 0 ?_
 try simp only [Act.put, pS]
 refine takeA 1 ?_
 try simp only [Act.put, pS]
 refine takeA 2 ?_
 try simp only [Act.put, pS]
 refine takeA 3 ?_
 try simp only [Act.put, pS]
 refine takeA 4 ?_
 try simp only [Act.put, pS]
 refine takeA 5 ?_
 try simp only [Act.put, pS]
 clear hcut hhead hHeld
 obtain ⟨V, hV⟩ : ∃ V, w.drew = V := ⟨_, rfl⟩
 have HOv : Hid (V.ownsRow base 32 1 (.slice (some ⟨g, 0, none⟩) i c) i (xs.take (i * 1))) := by show World.ownsRow _ _ _ _ _ _ _; rw [← hV]; exact own_drew (own_head HOwn.out (by omega) (by decide) (by simp))
 have HRv : Hid (Rd V w.heap.size 1 (some ad) (n - (i + 1)) (xs.drop ((i + 1) * 1))) := by show Rd _ _ _ _ _ _; rw [← hV]; exact HRd2.out.drew
 have HBv : Hid (w.grownBy V (some g)) := by show World.grownBy _ _ _; rw [← hV]; exact ⟨rfl, rfl, rfl, Nat.le_refl _, fun _ _ _ => rfl⟩
 rw [hV]
 clear hV
 obtain ⟨w5, hrun, hown5, hg5⟩ := run_append_fits (P := Tryz.prog) V base 33 33 32 i0 1 Tryz.underlying33 hi0 hy1 g i c _ HOv.out ad (n - (i + 1)) (c - (i + 1)) _ HRv.out.len (rd_src HRv.out) (fun u hu => H1.out u (List.mem_of_mem_drop hu)) (by omega)
 have hm : i + (n - (i + 1)) = n - 1 := by omega
 rw [hm] at hrun hown5
 have HRun := Lib.hid hrun
 have HO5 := Lib.hid hown5
 have HG5 := Lib.hid (HBv.out.trans hg5)
 clear hrun hown5 hg5 hm
 refine comeA 6 fun K hK => ?_
 refine wp_appE (.tmp 22) (.tmp 25) 33 33 _ _ _ rfl rfl HRun.out ?_
 refine hK.out _ _ trivial (fun _ => ?_)
 clear hK K
 try simp only [Act.put, pS]
 refine takeA 7 ?_
 try simp only [Act.put, pS]
 refine wpAnyH_done (by kernel_rfl) ?_ _
 try simp only [Act.put, pS]
 obtain ⟨g5, cur5, he5, hbg5, hh5, hnc5, hcm5, hcs5, hx5⟩ := own_open HO5.out (by simp)
 injection he5 with he5
 injection he5 with he5 _ _
 subst he5
 have HH5 := Lib.hid hh5
 have HX5 := Lib.hid hx5
 have HC5 := Lib.hid hcs5
 clear hh5 hx5 hcs5 HO5 HRun HOv HRv
 have hclr := run_clear1 (P := Tryz.prog) w5 33 0 32 i0 _ [Value.int .u64 0] zc_U (n - (n - 1)) (by omega) g ((n - 1)) (c - (n - 1)) cur5 32 Tryz.underlying33 hi0 hy0 HH5.out (by rw [HC5.out]; show (n - 1) + 1 ≤ c * 1; omega) (by intro u hu; simp at hu; subst hu; rfl)
 obtain ⟨W6, hW6⟩ : ∃ W6, w5.setRow g (cur5.toList.take ((n - 1)) ++ [Value.int .u64 0] ++ cur5.toList.drop ((n - 1) + ([Value.int .u64 0] : List Value).length)).toArray = W6 := ⟨_, rfl⟩
 rw [hW6] at hclr
 have HW6 := Lib.hid hW6
 clear hW6
 go_wp2
 go_ret
 rw [← HW6.out]
 refine ⟨_, rfl, ?_, HG5.out.trans (grown_setRow _ _ _)⟩
 have hl5 : (n - 1) * 1 + 1 ≤ cur5.toList.length := by rw [Array.length_toList, HC5.out]; omega
 refine own_shut hbg5 (setRow_heap w5 g cur5 _ 32 _ HH5.out) (by omega) hcm5 ?_ ?_
 ·rw [← HC5.out, List.size_toArray, ← Array.length_toList]; exact seg_len _ _ _ (by show (n - 1) + 1 ≤ _; omega)
 ·rw [← HX5.out, Nat.mul_one]; exact take_seg cur5.toList _ _ _ (by omega)
def InsU (base : Nat) (v : Value) (n i : Nat) (xs ys : List Value) (w : World) (e : Ending) (w' : World) : Prop :=
 ∃ v', e = .returned v' ∧ w'.ownsRow base 32 1 v' (n + 1) (xs.take (i) ++ ys ++ xs.drop (i)) ∧ w.grownBy w' v.ownBlock
set_option maxRecDepth 100000 in
set_option maxHeartbeats 4000000 in
theorem insU_any (base : Nat) (v : Value) (n i b : Nat) (xs ys : List Value) (w : World) (hown : w.ownsRow base 32 1 v n xs) (hi : i ≤ n) (hn : n ≤ 1000) (h1 : ∀ u ∈ xs, u.oneCell' = true) (h2 : ∀ u ∈ ys, u.oneCell' = true) (hbase : base ≤ w.heap.size)
 (hy : ys.length = 1) (hb : Bk w b 32 ys.toArray) (hne : v.ownBlock ≠ some b) :
 Calls Tryz.prog 83 #[v, .int .i64 (i : Int), .slice (some ⟨b, 0, none⟩) 1 1] w (InsU base v n i xs ys w) := by
 obtain ⟨i0, hi0, hy0, hy1, hy2⟩ := info_parts info_u64
 obtain ⟨A, c, rfl, hsv, hrd⟩ := own_slv hown
 have HOwn := Lib.hid hown
 have HRd := Lib.hid hrd
 have H1 := Lib.hid h1
 have H2 := Lib.hid h2
 have HY := Lib.hid hy
 have HBk := Lib.hid hb
 have HSv := Lib.hid hsv
 have HRy : Hid (Rd w w.heap.size 1 (some ⟨b, 0, none⟩) 1 ys) := ⟨by rw [HY.out], by simp [maxLen], fun _ => ⟨b, 0, rfl, HBk.out.lt, fun j u hu => by rw [Nat.zero_add, HBk.out.cell]; simpa using hu⟩⟩
 have hlen : xs.length = n * 1 := hrd.len
 have HLen := Lib.hid hlen
 have hnc := hsv.1
 clear hown hrd h1 h2 hy hb hsv hlen
 by_cases hin : i = n
 ·subst hin
  have HE : Hid (xs.take (i) ++ ys ++ xs.drop (i) = xs ++ ys) := by
   show _ = _
   rw [List.take_of_length_le (by rw [HLen.out]; omega), List.drop_of_length_le (by rw [HLen.out]; omega), List.append_nil]
  go_enter Tryz.func83, Tryz.ntmps83
  go_wp2_with (at_builtin; refine wpList_app _ (by rfl) (.tmp 23) (.tmp 24) 33 (by rfl) base 32 i0 _ 1 8 Tryz.underlying33 hi0 hy0 hy1 hy2 rfl (by decide) (.slice A i c) i xs (by rfl) HOwn.out w.heap.size (some ⟨b, 0, none⟩) 1 1 ys (by rfl) HRy.out H2.out (by simp only [maxLen]; omega) (by omega) hbase ?_)
  all_goals
   intro v5 w5 hown5 hg5 _
   have HO5 := Lib.hid hown5
   have HG5 := Lib.hid hg5
   clear hown5 hg5
   go_wp2
   go_ret
   exact ⟨_, rfl, by rw [HE.out]; exact HO5.out, by cases A <;> exact HG5.out⟩
 ·obtain hlt : i < n := by omega
  have hA : A ≠ none := fun e => by have := HSv.out.2 e; omega
  obtain ⟨g, cur, rfl, hbg, hg, _, hcm, hcs, hx⟩ := own_open HOwn.out hA
  have HG := Lib.hid hg
  have HCs := Lib.hid hcs
  have HX := Lib.hid hx
  have hbne : b ≠ g := fun e => hne (by rw [e]; rfl)
  have hii : ¬ ((i : Int) = (n : Int)) := by omega
  have hw1 : IntKind.i64.wrap ((n : Int) + 1) = (n : Int) + 1 := by rw [IntKind.wrap_i64]; omega
  have hw2 : IntKind.i64.wrap ((i : Int) + 1) = (i : Int) + 1 := by rw [IntKind.wrap_i64]; omega
  have hw3 : IntKind.i64.wrap ((n : Int) + 1 - (i : Int)) = (n : Int) + 1 - (i : Int) := by rw [IntKind.wrap_i64]; omega
  clear hg hcs hx hA
  by_cases hroom : n + 1 ≤ c
  ·have hnr : ¬ ((c : Int) < (n : Int) + 1) := by omega
   have hov : ∀ (o lb cb : Nat) (W : World), Bk W b 32 ys.toArray → (∃ cs, W.heap[g]? = some (.cells cs 32 (0, 0)) ∧ cs.size ≠ 0) → (callFunc 99 #[.slice (some ⟨b, 0, none⟩) 1 1, .slice (some ⟨g, o, none⟩) lb cb]).run Tryz.prog W = .ok (.value (.bool false)) W := fun o lb cb W hb hgs => by
    obtain ⟨cs, hgs, hz⟩ := hgs
    unfold Bk at hb
    rw [run_callFunc_extern Tryz.func99 (by kernel_rfl) (by kernel_rfl) (by kernel_rfl) (e := Extern.SlicesOverlaps.overlaps #[33, 33] #[4]) (by kernel_rfl),
     Lib.run_overlaps_apart W 33 4 32 Tryz.underlying33 1 (fun W => by kernel_rfl) ⟨b, 0, none⟩ ⟨g, o, none⟩ 1 1 lb cb hbne 32 32 ys.toArray.size cs.size (by simp [World.shape?, hb]) (by simp [World.shape?, hgs]) hz (by simp [World.frozen?, hb]) (by simp [World.frozen?, hb])]
    rfl
   have hgs : ∃ cs, w.heap[g]? = some (.cells cs 32 (0, 0)) ∧ cs.size ≠ 0 := ⟨cur, HG.out, by rw [HCs.out]; omega⟩
   have hov1 := fun lb cb => hov ((i + 1)) lb cb w HBk.out hgs
   clear hov hgs
   have hi1 : ¬ ((i : Int) + 1 = (c : Int)) := by omega
   have hi2 : (0 : Int) ≤ (i : Int) + 1 := by omega
   have hi3 : (i : Int) ≤ (n : Int) + 1 := by omega
   have hi4 : ¬ (c = i + 1) := by omega
   have hi5 : ¬ (c = i) := by omega
   have hcurl : cur.toList.length = c * 1 := by rw [Array.length_toList, HCs.out]
   have HSd : Hid (xs.drop (i) = (cur.toList.take (n)).drop (i)) := by show _ = _; rw [← HX.out, Nat.mul_one]
   obtain ⟨S1, hS1⟩ : ∃ S1, xs.drop (i) = S1 := ⟨_, rfl⟩
   have HS1 := Lib.hid hS1
   have hSl : S1.length = (n - i) := by rw [← hS1, List.length_drop, HLen.out]; omega
   clear hS1
   go_enter Tryz.func83, Tryz.ntmps83
   go_wp2_with fail
   refine wp_region_held_drew (S := (fun _ => True)) (by kernel_rfl) ?_ (fun hHeld => ?_)
   ·trivial
   refine takeA 0 ?_
   try simp only [Act.put, pS]
   refine takeA 1 ?_
   try simp only [Act.put, pS]
   refine takeA 2 ?_
   try simp only [Act.put, pS]
   refine takeA 3 ?_
   try simp only [Act.put, pS]
   refine takeA 4 ?_
   try simp only [Act.put, pS]
   refine takeA 5 ?_
   try simp only [Act.put, pS]
   refine takeA 6 ?_
   try simp only [Act.put, pS]
   refine takeA 7 ?_
   try simp only [Act.put, pS]
   obtain ⟨V, hV⟩ : ∃ V, w.drew = V := ⟨_, rfl⟩
   have HGv : Hid (V.heap[g]? = some (.cells cur 32 (0, 0))) := by show _ = _; rw [← hV]; exact HG.out
   have HBv : Hid (Bk V b 32 ys.toArray) := by show Bk _ _ _ _; rw [← hV]; exact HBk.out
   have HWv : Hid (w.grownBy V (some g)) := by show World.grownBy _ _ _; rw [← hV]; exact ⟨rfl, rfl, rfl, Nat.le_refl _, fun _ _ _ => rfl⟩
   rw [hV]
   clear hV
   obtain ⟨row1, hrow1⟩ : ∃ r, cur.toList.take ((i + 1)) ++ S1 ++ cur.toList.drop ((i + 1) + S1.length) = r := ⟨_, rfl⟩
   have hcp := fun ty => run_copyK (P := Tryz.prog) V 33 33 ty 32 i0 g ((i + 1)) (n - i) (c - (i + 1)) ⟨g, i, none⟩ (n + 1 - i) (c - i) (n - i) cur 32 S1 Tryz.underlying33 hi0 HGv.out (by simp only [Nat.min_def]; split <;> omega) (by rw [hSl, hy1]; omega) (fun j u hu => by rw [Addr.add_lit]; exact cells_at HGv.out (by rw [HSd.out.symm.trans HS1.out]; exact hu)) (by rw [hSl, HCs.out]; omega) (fun u hu => H1.out u (by rw [← HS1.out] at hu; exact List.mem_of_mem_drop hu))
   simp only [hrow1] at hcp
   obtain ⟨W1, hW1⟩ : ∃ W1, V.setRow g row1.toArray = W1 := ⟨_, rfl⟩
   simp only [hW1] at hcp
   have HCp := Lib.hid hcp
   refine comeA 8 fun K hK => ?_
   refine wp_copyK (.tmp 73) (.tmp 76) 33 33 _ _ _ rfl rfl (HCp.out _) ?_
   refine hK.out _ _ trivial (fun _ => ?_)
   clear hK K
   try simp only [Act.put, pS]
   refine wpAnyH_done (by kernel_rfl) ?_ _
   try simp only [Act.put, pS]
   clear hcp HCp hov1
   have HR1 : Hid (row1 = cur.toList.take (i + 1) ++ (cur.toList.take (n)).drop (i) ++ cur.toList.drop (i + 1 + ((cur.toList.take (n)).drop (i)).length)) := by show _ = _; rw [← hrow1, ← HSd.out.symm.trans HS1.out]
   have HI := Lib.hid (ins_room cur.toList ys (i) (n) 1 HY.out (by omega) (by rw [hcurl]; omega) row1 HR1.out)
   have HG1 : Hid (W1.heap[g]? = some (.cells row1.toArray 32 (0, 0))) := by show _ = _; rw [← hW1]; exact setRow_heap V g cur _ 32 _ HGv.out
   have HB1 : Hid (Bk W1 b 32 ys.toArray) := by show Bk _ _ _ _; rw [← hW1]; exact (setRow_other V g b _ hbne).trans HBv.out
   have HW1 : Hid (w.grownBy W1 (some g)) := by show World.grownBy _ _ _; rw [← hW1]; exact HWv.out.trans (grown_setRow _ _ _)
   have hr1s : row1.toArray.size = c * 1 := by rw [List.size_toArray, HI.out.2, hcurl]
   have hcp2 := fun ty => run_copyK (P := Tryz.prog) W1 33 33 ty 32 i0 g (i) (n + 1 - i) (c - i) ⟨b, 0, none⟩ 1 1 1 row1.toArray 32 ys Tryz.underlying33 hi0 HG1.out (by simp only [Nat.min_def]; split <;> omega) (by rw [HY.out, hy1]) (fun j u hu => by rw [Addr.add_lit, Nat.zero_add, HB1.out.cell]; simpa using hu) (by rw [HY.out, hr1s]; omega) H2.out
   clear hW1 hrow1 HGv HBv HWv hSl
   obtain ⟨row2, hrow2⟩ : ∃ r, row1.toArray.toList.take (i) ++ ys ++ row1.toArray.toList.drop (i + ys.length) = r := ⟨_, rfl⟩
   simp only [hrow2] at hcp2
   obtain ⟨W2, hW2⟩ : ∃ W2, W1.setRow g row2.toArray = W2 := ⟨_, rfl⟩
   simp only [hW2] at hcp2
   have HR2 := Lib.hid hrow2
   have HW2 := Lib.hid hW2
   clear hW2 hrow2
   go_wp2
   go_ret
   rw [← HW2.out]
   have hl2 : row2.length = c * 1 := by rw [← HR2.out, seg_len _ _ _ (by rw [HY.out]; show _ ≤ row1.toArray.toList.length; rw [Array.length_toList, hr1s]; omega), Array.length_toList, hr1s]
   refine ⟨_, rfl, own_shut hbg (setRow_heap W1 g row1.toArray _ 32 _ HG1.out) (by omega) hcm (by rw [List.size_toArray]; exact hl2) ?_, HW1.out.trans (grown_setRow _ _ _)⟩
   show row2.take ((n + 1) * 1) = _
   rw [← HR2.out, show (n + 1) * 1 = n + 1 by omega]
   refine HI.out.1.trans ?_
   rw [← HX.out, Nat.mul_one]
  ·have hnr : (c : Int) < (n : Int) + 1 := by omega
   have hhead := cut_head (P := Tryz.prog) 33 elem_U size_U (some ⟨g, 0, none⟩) n c i (i : Int) rfl (by omega)
   have hold : (Builtin.firstCells i0.size i (.slice (some ⟨g, 0, none⟩) i c)).run Tryz.prog w.drew = .ok (xs.take (i)).toArray w.drew := by
    rw [hy1]
    exact run_firstCells_some w.drew 1 i ⟨g, 0, none⟩ i c (xs.take (i)) (by rw [List.length_take, HLen.out]; omega) (fun j u hu => by rw [Addr.add_lit, ← HX.out] at *; exact cells_at (o := 0) (p := i) (w := w.drew) HG.out (by rw [List.drop_zero]; rw [List.take_take, Nat.min_eq_left (by omega)] at hu; exact hu))
   have hkk : (n : Int) + 1 - (i : Int) = ((n + 1 - i : Nat) : Int) := by omega
   have hin1 : i + (n + 1 - i) = n + 1 := by omega
   have hrz := Lib.run_append_grow_zeros (P := Tryz.prog) w 33 3 33 32 i0 _ .i64 .i64 Tryz.underlying33 Tryz.underlying3 hi0 hy0 (some ⟨g, 0, none⟩) i c (xs.take (i)) hold (n + 1 - i) (by omega) (by rw [hy1]; decide) (by omega) (by omega) (by rw [hy2]; omega) (by rw [hy2, hin1]; exact growslice_fits (by omega) (by omega))
   rw [hin1, ← hkk] at hrz
   obtain ⟨G, hG⟩ : ∃ G, grownCap w (n + 1) c 32 = G := ⟨_, rfl⟩
   have hGge : n + 1 ≤ G := by rw [← hG]; exact grownCap_ge w (n + 1) c 32
   have hGle : G ≤ maxLen := by rw [← hG]; exact grownCap_le_maxLen w (n + 1) c 32 (by simp only [maxLen]; omega)
   rw [hG] at hrz
   have HRZ := Lib.hid hrz
   clear hrz hold hkk
   obtain ⟨ROW, hROW⟩ : ∃ ROW, (xs.take (i)).toArray ++ Builtin.zeroCells #[Value.int .u64 0] (n + 1 - i) ++ Builtin.zeroCells #[Value.int .u64 0] (G - (n + 1)) = ROW := ⟨_, rfl⟩
   obtain ⟨W1, hW1⟩ : ∃ W1, w.drew.alloc (.cells ROW 32) = W1 := ⟨_, rfl⟩
   have HRZ2 : Hid ((Builtin.append_ #[33, 3] 33 #[.slice (some ⟨g, 0, none⟩) i c, .int .i64 ((n : Int) + 1 - (i : Int))]).run Tryz.prog w = .ok (.slice (some ⟨w.heap.size, 0, none⟩) (n + 1) G) W1) := by show _ = _; rw [← hW1, ← hROW]; exact HRZ.out
   have hRs : ROW.size = G * 1 := by rw [← hROW]; simp only [Array.size_append, List.size_toArray, size_zeroCells, List.length_take, HLen.out]; simp only [Value.cells, List.size_toArray, List.length_cons, List.length_nil]; omega
   have hRt : ROW.toList.take (i) = xs.take (i) := by rw [← hROW, Array.toList_append, Array.toList_append, List.append_assoc]; exact take_len (by rw [List.length_take, HLen.out]; omega)
   have HG1 : Hid (W1.heap[w.heap.size]? = some (.cells ROW 32 (0, 0))) := by show _ = _; rw [← hW1]; exact heap_alloc_new w.drew _
   have hgl : g < w.heap.size := (Array.getElem?_eq_some_iff.1 HG.out).1
   have HGo : Hid (W1.heap[g]? = some (.cells cur 32 (0, 0))) := by show _ = _; rw [← hW1]; exact (Below.heap_alloc w.drew _ g hgl).trans HG.out
   have HB1 : Hid (Bk W1 b 32 ys.toArray) := by show Bk _ _ _ _; rw [← hW1]; exact (Below.heap_alloc w.drew _ b HBk.out.lt).trans HBk.out
   have HW1 : Hid (w.grownBy W1 none) := by show World.grownBy _ _ _; rw [← hW1]; exact (show w.grownBy w.drew none from ⟨rfl, rfl, rfl, Nat.le_refl _, fun _ _ _ => rfl⟩).trans (World.grownBy_alloc _ _ _)
   clear hW1 hROW HRZ
   obtain ⟨g2, hg2⟩ : ∃ g2, w.heap.size = g2 := ⟨_, rfl⟩
   have Hg2 := Lib.hid hg2
   rw [hg2] at HRZ2 HG1
   have hgg : g ≠ g2 := by omega
   have hbg2 : b ≠ g2 := by have := HBk.out.lt; omega
   have hbs2 : base ≤ g2 := by omega
   clear hg2 hgl
   have hi4 : ¬ (G = i + 1) := by omega
   have hi5 : ¬ (G = i) := by omega
   have hi6 : ¬ (c = i) := by omega
   have hi2 : (0 : Int) ≤ (i : Int) + 1 := by omega
   have hi3 : (i : Int) ≤ (n : Int) + 1 := by omega
   have hcp1 := fun ty => run_copyK (P := Tryz.prog) W1 33 33 ty 32 i0 g2 (i) (n + 1 - i) (G - i) ⟨b, 0, none⟩ 1 1 1 ROW 32 ys Tryz.underlying33 hi0 HG1.out (by simp only [Nat.min_def]; split <;> omega) (by rw [HY.out, hy1]) (fun j u hu => by rw [Addr.add_lit, Nat.zero_add, HB1.out.cell]; simpa using hu) (by rw [HY.out, hRs]; omega) H2.out
   obtain ⟨row1, hrow1⟩ : ∃ r, ROW.toList.take (i) ++ ys ++ ROW.toList.drop (i + ys.length) = r := ⟨_, rfl⟩
   simp only [hrow1] at hcp1
   obtain ⟨W2, hW2⟩ : ∃ W2, W1.setRow g2 row1.toArray = W2 := ⟨_, rfl⟩
   simp only [hW2] at hcp1
   have HR1 := Lib.hid hrow1.symm
   have HI := Lib.hid (ins_grow xs ys ROW.toList (i) (n) 1 HY.out (by omega) (by rw [HLen.out]; omega) hRt (by rw [Array.length_toList, hRs]; omega) row1 HR1.out)
   have hr1s : row1.toArray.size = G * 1 := by rw [List.size_toArray, HI.out.2.1, Array.length_toList, hRs]
   have HG2 : Hid (W2.heap[g2]? = some (.cells row1.toArray 32 (0, 0))) := by show _ = _; rw [← hW2]; exact setRow_heap W1 g2 ROW _ 32 _ HG1.out
   have HGo2 : Hid (W2.heap[g]? = some (.cells cur 32 (0, 0))) := by show _ = _; rw [← hW2]; exact (setRow_other W1 g2 g _ hgg).trans HGo.out
   have HW2 : Hid (w.grownBy W2 none) := by show World.grownBy _ _ _; rw [← hW2]; exact ⟨HW1.out.os, HW1.out.tape, HW1.out.output, Nat.le_trans HW1.out.size (by simp [World.setRow]), fun k hk hr => (setRow_other W1 g2 k _ (by have := Hg2.out; omega)).trans (HW1.out.block k hk hr)⟩
   have HSd : Hid (xs.drop (i) = (cur.toList.take (n)).drop (i)) := by show _ = _; rw [← HX.out, Nat.mul_one]
   obtain ⟨S1, hS1⟩ : ∃ S1, xs.drop (i) = S1 := ⟨_, rfl⟩
   have HS1 := Lib.hid hS1
   have hSl : S1.length = (n - i) := by rw [← hS1, List.length_drop, HLen.out]; omega
   clear hrow1 hW2 hS1 hRt HGo HB1
   go_enter Tryz.func83, Tryz.ntmps83
   go_wp2_with (at_builtin; refine Lib.wpList_append_run _ (by rfl) (.tmp 34) (.tmp 39) 33 3 (by rfl) (.slice (some ⟨g, 0, none⟩) i c) (.int .i64 ((n : Int) + 1 - (i : Int))) (by rfl) (by rfl) _ _ HRZ2.out ?_)
   refine wp_region_held_drew (S := (fun _ => True)) (by kernel_rfl) ?_ (fun hHeld => ?_)
   ·trivial
   refine takeA 0 ?_
   try simp only [Act.put, pS]
   refine takeA 1 ?_
   try simp only [Act.put, pS]
   refine takeA 2 ?_
   try simp only [Act.put, pS]
   refine takeA 3 ?_
   try simp only [Act.put, pS]
   refine takeA 4 ?_
   try simp only [Act.put, pS]
   refine takeA 5 ?_
   try simp only [Act.put, pS]
   refine takeA 6 ?_
   try simp only [Act.put, pS]
   refine takeA 7 ?_
   try simp only [Act.put, pS]
   obtain ⟨V, hV⟩ : ∃ V, W2.drew = V := ⟨_, rfl⟩
   have HGv : Hid (V.heap[g2]? = some (.cells row1.toArray 32 (0, 0))) := by show _ = _; rw [← hV]; exact HG2.out
   have HGov : Hid (V.heap[g]? = some (.cells cur 32 (0, 0))) := by show _ = _; rw [← hV]; exact HGo2.out
   have HWv : Hid (w.grownBy V none) := by show World.grownBy _ _ _; rw [← hV]; exact ⟨HW2.out.os, HW2.out.tape, HW2.out.output, HW2.out.size, HW2.out.block⟩
   rw [hV]
   clear hV
   obtain ⟨row2, hrow2⟩ : ∃ r, row1.toArray.toList.take ((i + 1)) ++ S1 ++ row1.toArray.toList.drop ((i + 1) + S1.length) = r := ⟨_, rfl⟩
   have hcp := fun ty => run_copyK (P := Tryz.prog) V 33 33 ty 32 i0 g2 ((i + 1)) (n - i) (G - (i + 1)) ⟨g, i, none⟩ (n - i) (c - i) (n - i) row1.toArray 32 S1 Tryz.underlying33 hi0 HGv.out (by simp only [Nat.min_def]; split <;> omega) (by rw [hSl, hy1]; omega) (fun j u hu => by rw [Addr.add_lit]; exact cells_at HGov.out (by rw [HSd.out.symm.trans HS1.out]; exact hu)) (by rw [hSl, hr1s]; omega) (fun u hu => H1.out u (by rw [← HS1.out] at hu; exact List.mem_of_mem_drop hu))
   simp only [hrow2] at hcp
   have HCp := Lib.hid hcp
   refine comeA 8 fun K hK => ?_
   refine wp_copyK (.tmp 50) (.tmp 53) 33 33 _ _ _ rfl rfl (HCp.out _) ?_
   refine hK.out _ _ trivial (fun _ => ?_)
   clear hK K
   try simp only [Act.put, pS]
   refine wpAnyH_done (by kernel_rfl) ?_ _
   try simp only [Act.put, pS]
   clear hcp HCp
   have HR2 := Lib.hid hrow2
   clear hrow2
   go_wp2
   go_ret
   have e2 : row2 = row1.take (i + 1) ++ xs.drop (i) ++ row1.drop (i + 1 + (xs.drop (i)).length) := by rw [← HR2.out, HS1.out]
   have hl2 : row2.length = G * 1 := by rw [e2, HI.out.2.2, Array.length_toList, hRs]
   refine ⟨_, rfl, own_shut hbs2 (setRow_heap V g2 row1.toArray _ 32 _ HGv.out) (by omega) hGle (by rw [List.size_toArray]; exact hl2) ?_, ?_⟩
   ·show row2.take ((n + 1) * 1) = _
    rw [e2, show (n + 1) * 1 = n + 1 by omega]
    exact HI.out.1
   ·exact ⟨HWv.out.os, HWv.out.tape, HWv.out.output, Nat.le_trans HWv.out.size (by simp [World.setRow]), fun k hk hr => (setRow_other V g2 k _ (by have := Hg2.out; omega)).trans (HWv.out.block k hk (by simp))⟩
theorem elem_P : Tryz.prog.underlying 114 = some (.slice (Tryz.prog.elem 114)) := by kernel_rfl
theorem size_P (W : World) : (sizeOf (Tryz.prog.elem 114)).run Tryz.prog W = .ok 2 W := by kernel_rfl
theorem zc_P : (Builtin.zeroCells ((.agg #[.int .u64 0, .int .u64 0] : Value)).cells 1).toList = [Value.int .u64 0, Value.int .u64 0] := by simp [Builtin.zeroCells, Value.cells, List.range_succ]
def DelP (base : Nat) (v : Value) (n i : Nat) (xs : List Value) (w : World) (e : Ending) (w' : World) : Prop :=
 ∃ v', e = .returned v' ∧ w'.ownsRow base 112 2 v' (n - 1) (xs.take (i * 2) ++ xs.drop ((i + 1) * 2)) ∧ w.grownBy w' v.ownBlock
set_option maxRecDepth 100000 in
set_option maxHeartbeats 4000000 in
theorem delP_any (base : Nat) (v : Value) (n i : Nat) (xs : List Value) (w : World) (hown : w.ownsRow base 112 2 v n xs) (hi : i < n) (hn : n ≤ 1000) (h1 : ∀ u ∈ xs, u.oneCell' = true) (hbase : base ≤ w.heap.size) :
 Calls Tryz.prog 88 #[v, .int .i64 (i : Int), .int .i64 ((i : Int) + 1)] w (DelP base v n i xs w) := by
 obtain ⟨i0, hi0, hy0, hy1, hy2⟩ := info_parts info_pr
 obtain ⟨A, c, rfl, hsv, hrd⟩ := own_slv hown
 have hA : A ≠ none := fun e => by have := hsv.2 e; have := hsv.1; omega
 obtain ⟨g, cur, rfl, hbg, hg, hnc, hcm, hcs, hx⟩ := own_open hown hA
 have HOwn := Lib.hid hown
 have HRd := Lib.hid hrd
 have H1 := Lib.hid h1
 clear hg hcs hx hown hrd hA hsv h1
 go_enter Tryz.func88, Tryz.ntmps88
 go_wp2
 obtain ⟨ad, hcut, hrd⟩ := cut_k (P := Tryz.prog) 114 elem_P size_P HRd.out hnc (i + 1) ((i : Int) + 1) (by omega) (by omega) (by simp)
 have hhead := cut_head (P := Tryz.prog) 114 elem_P size_P (some ⟨g, 0, none⟩) n c i (i : Int) rfl (by omega)
 have HRd2 := Lib.hid hrd
 clear hrd
 refine wp_region_held_drew (S := (fun _ => True)) (by kernel_rfl) ?_ (fun hHeld => ?_)
 ·trivial
 refine takeA 0 ?_
 try simp only [Act.put, pS]
 refine takeA 1 ?_
 try simp only [Act.put, pS]
 refine takeA 2 ?_
 try simp only [Act.put, pS]
 refine takeA 3 ?_
 try simp only [Act.put, pS]
 refine takeA 4 ?_
 try simp only [Act.put, pS]
 refine takeA 5 ?_
 try simp only [Act.put, pS]
 clear hcut hhead hHeld
 obtain ⟨V, hV⟩ : ∃ V, w.drew = V := ⟨_, rfl⟩
 have HOv : Hid (V.ownsRow base 112 2 (.slice (some ⟨g, 0, none⟩) i c) i (xs.take (i * 2))) := by show World.ownsRow _ _ _ _ _ _ _; rw [← hV]; exact own_drew (own_head HOwn.out (by omega) (by decide) (by simp))
 have HRv : Hid (Rd V w.heap.size 2 (some ad) (n - (i + 1)) (xs.drop ((i + 1) * 2))) := by show Rd _ _ _ _ _ _; rw [← hV]; exact HRd2.out.drew
 have HBv : Hid (w.grownBy V (some g)) := by show World.grownBy _ _ _; rw [← hV]; exact ⟨rfl, rfl, rfl, Nat.le_refl _, fun _ _ _ => rfl⟩
 rw [hV]
 clear hV
 obtain ⟨w5, hrun, hown5, hg5⟩ := run_append_fits (P := Tryz.prog) V base 114 114 112 i0 2 Tryz.underlying114 hi0 hy1 g i c _ HOv.out ad (n - (i + 1)) (c - (i + 1)) _ HRv.out.len (rd_src HRv.out) (fun u hu => H1.out u (List.mem_of_mem_drop hu)) (by omega)
 have hm : i + (n - (i + 1)) = n - 1 := by omega
 rw [hm] at hrun hown5
 have HRun := Lib.hid hrun
 have HO5 := Lib.hid hown5
 have HG5 := Lib.hid (HBv.out.trans hg5)
 clear hrun hown5 hg5 hm
 refine comeA 6 fun K hK => ?_
 refine wp_appE (.tmp 22) (.tmp 25) 114 114 _ _ _ rfl rfl HRun.out ?_
 refine hK.out _ _ trivial (fun _ => ?_)
 clear hK K
 try simp only [Act.put, pS]
 refine takeA 7 ?_
 try simp only [Act.put, pS]
 refine wpAnyH_done (by kernel_rfl) ?_ _
 try simp only [Act.put, pS]
 obtain ⟨g5, cur5, he5, hbg5, hh5, hnc5, hcm5, hcs5, hx5⟩ := own_open HO5.out (by simp)
 injection he5 with he5
 injection he5 with he5 _ _
 subst he5
 have HH5 := Lib.hid hh5
 have HX5 := Lib.hid hx5
 have HC5 := Lib.hid hcs5
 clear hh5 hx5 hcs5 HO5 HRun HOv HRv
 have hclr := run_clear1 (P := Tryz.prog) w5 114 0 112 i0 _ [Value.int .u64 0, Value.int .u64 0] zc_P (n - (n - 1)) (by omega) g ((n - 1) * 2) (c - (n - 1)) cur5 112 Tryz.underlying114 hi0 hy0 HH5.out (by rw [HC5.out]; show (n - 1) * 2 + 2 ≤ c * 2; omega) (by intro u hu; simp at hu; subst hu; rfl)
 obtain ⟨W6, hW6⟩ : ∃ W6, w5.setRow g (cur5.toList.take ((n - 1) * 2) ++ [Value.int .u64 0, Value.int .u64 0] ++ cur5.toList.drop ((n - 1) * 2 + ([Value.int .u64 0, Value.int .u64 0] : List Value).length)).toArray = W6 := ⟨_, rfl⟩
 rw [hW6] at hclr
 have HW6 := Lib.hid hW6
 clear hW6
 go_wp2
 go_ret
 rw [← HW6.out]
 refine ⟨_, rfl, ?_, HG5.out.trans (grown_setRow _ _ _)⟩
 have hl5 : (n - 1) * 2 + 2 ≤ cur5.toList.length := by rw [Array.length_toList, HC5.out]; omega
 refine own_shut hbg5 (setRow_heap w5 g cur5 _ 112 _ HH5.out) (by omega) hcm5 ?_ ?_
 ·rw [← HC5.out, List.size_toArray, ← Array.length_toList]; exact seg_len _ _ _ (by show (n - 1) * 2 + 2 ≤ _; omega)
 ·rw [← HX5.out]; exact take_seg cur5.toList _ _ _ (by omega)
def InsP (base : Nat) (v : Value) (n i : Nat) (xs ys : List Value) (w : World) (e : Ending) (w' : World) : Prop :=
 ∃ v', e = .returned v' ∧ w'.ownsRow base 112 2 v' (n + 1) (xs.take (i * 2) ++ ys ++ xs.drop (i * 2)) ∧ w.grownBy w' v.ownBlock
set_option maxRecDepth 100000 in
set_option maxHeartbeats 4000000 in
theorem insP_any (base : Nat) (v : Value) (n i b : Nat) (xs ys : List Value) (w : World) (hown : w.ownsRow base 112 2 v n xs) (hi : i ≤ n) (hn : n ≤ 1000) (h1 : ∀ u ∈ xs, u.oneCell' = true) (h2 : ∀ u ∈ ys, u.oneCell' = true) (hbase : base ≤ w.heap.size)
 (hy : ys.length = 2) (hb : Bk w b 112 ys.toArray) (hne : v.ownBlock ≠ some b) :
 Calls Tryz.prog 89 #[v, .int .i64 (i : Int), .slice (some ⟨b, 0, none⟩) 1 1] w (InsP base v n i xs ys w) := by
 obtain ⟨i0, hi0, hy0, hy1, hy2⟩ := info_parts info_pr
 obtain ⟨A, c, rfl, hsv, hrd⟩ := own_slv hown
 have HOwn := Lib.hid hown
 have HRd := Lib.hid hrd
 have H1 := Lib.hid h1
 have H2 := Lib.hid h2
 have HY := Lib.hid hy
 have HBk := Lib.hid hb
 have HSv := Lib.hid hsv
 have HRy : Hid (Rd w w.heap.size 2 (some ⟨b, 0, none⟩) 1 ys) := ⟨by rw [HY.out], by simp [maxLen], fun _ => ⟨b, 0, rfl, HBk.out.lt, fun j u hu => by rw [Nat.zero_add, HBk.out.cell]; simpa using hu⟩⟩
 have hlen : xs.length = n * 2 := hrd.len
 have HLen := Lib.hid hlen
 have hnc := hsv.1
 clear hown hrd h1 h2 hy hb hsv hlen
 by_cases hin : i = n
 ·subst hin
  have HE : Hid (xs.take (i * 2) ++ ys ++ xs.drop (i * 2) = xs ++ ys) := by
   show _ = _
   rw [List.take_of_length_le (by rw [HLen.out]; omega), List.drop_of_length_le (by rw [HLen.out]; omega), List.append_nil]
  go_enter Tryz.func89, Tryz.ntmps89
  go_wp2_with (at_builtin; refine wpList_app _ (by rfl) (.tmp 23) (.tmp 24) 114 (by rfl) base 112 i0 _ 2 16 Tryz.underlying114 hi0 hy0 hy1 hy2 rfl (by decide) (.slice A i c) i xs (by rfl) HOwn.out w.heap.size (some ⟨b, 0, none⟩) 1 1 ys (by rfl) HRy.out H2.out (by simp only [maxLen]; omega) (by omega) hbase ?_)
  all_goals
   intro v5 w5 hown5 hg5 _
   have HO5 := Lib.hid hown5
   have HG5 := Lib.hid hg5
   clear hown5 hg5
   go_wp2
   go_ret
   exact ⟨_, rfl, by rw [HE.out]; exact HO5.out, by cases A <;> exact HG5.out⟩
 ·obtain hlt : i < n := by omega
  have hA : A ≠ none := fun e => by have := HSv.out.2 e; omega
  obtain ⟨g, cur, rfl, hbg, hg, _, hcm, hcs, hx⟩ := own_open HOwn.out hA
  have HG := Lib.hid hg
  have HCs := Lib.hid hcs
  have HX := Lib.hid hx
  have hbne : b ≠ g := fun e => hne (by rw [e]; rfl)
  have hii : ¬ ((i : Int) = (n : Int)) := by omega
  have hw1 : IntKind.i64.wrap ((n : Int) + 1) = (n : Int) + 1 := by rw [IntKind.wrap_i64]; omega
  have hw2 : IntKind.i64.wrap ((i : Int) + 1) = (i : Int) + 1 := by rw [IntKind.wrap_i64]; omega
  have hw3 : IntKind.i64.wrap ((n : Int) + 1 - (i : Int)) = (n : Int) + 1 - (i : Int) := by rw [IntKind.wrap_i64]; omega
  clear hg hcs hx hA
  by_cases hroom : n + 1 ≤ c
  ·have hnr : ¬ ((c : Int) < (n : Int) + 1) := by omega
   have hov : ∀ (o lb cb : Nat) (W : World), Bk W b 112 ys.toArray → (∃ cs, W.heap[g]? = some (.cells cs 112 (0, 0)) ∧ cs.size ≠ 0) → (callFunc 102 #[.slice (some ⟨b, 0, none⟩) 1 1, .slice (some ⟨g, o, none⟩) lb cb]).run Tryz.prog W = .ok (.value (.bool false)) W := fun o lb cb W hb hgs => by
    obtain ⟨cs, hgs, hz⟩ := hgs
    unfold Bk at hb
    rw [run_callFunc_extern Tryz.func102 (by kernel_rfl) (by kernel_rfl) (by kernel_rfl) (e := Extern.SlicesOverlaps.overlaps #[114, 114] #[4]) (by kernel_rfl),
     Lib.run_overlaps_apart W 114 4 112 Tryz.underlying114 2 (fun W => by kernel_rfl) ⟨b, 0, none⟩ ⟨g, o, none⟩ 1 1 lb cb hbne 112 112 ys.toArray.size cs.size (by simp [World.shape?, hb]) (by simp [World.shape?, hgs]) hz (by simp [World.frozen?, hb]) (by simp [World.frozen?, hb])]
    rfl
   have hgs : ∃ cs, w.heap[g]? = some (.cells cs 112 (0, 0)) ∧ cs.size ≠ 0 := ⟨cur, HG.out, by rw [HCs.out]; omega⟩
   have hov1 := fun lb cb => hov ((i + 1) * 2) lb cb w HBk.out hgs
   clear hov hgs
   have hi1 : ¬ ((i : Int) + 1 = (c : Int)) := by omega
   have hi2 : (0 : Int) ≤ (i : Int) + 1 := by omega
   have hi3 : (i : Int) ≤ (n : Int) + 1 := by omega
   have hi4 : ¬ (c = i + 1) := by omega
   have hi5 : ¬ (c = i) := by omega
   have hcurl : cur.toList.length = c * 2 := by rw [Array.length_toList, HCs.out]
   have HSd : Hid (xs.drop (i * 2) = (cur.toList.take (n * 2)).drop (i * 2)) := by show _ = _; rw [← HX.out]
   obtain ⟨S1, hS1⟩ : ∃ S1, xs.drop (i * 2) = S1 := ⟨_, rfl⟩
   have HS1 := Lib.hid hS1
   have hSl : S1.length = (n - i) * 2 := by rw [← hS1, List.length_drop, HLen.out]; omega
   clear hS1
   go_enter Tryz.func89, Tryz.ntmps89
   go_wp2_with fail
   refine wp_region_held_drew (S := (fun _ => True)) (by kernel_rfl) ?_ (fun hHeld => ?_)
   ·trivial
   refine takeA 0 ?_
   try simp only [Act.put, pS]
   refine takeA 1 ?_
   try simp only [Act.put, pS]
   refine takeA 2 ?_
   try simp only [Act.put, pS]
   refine takeA 3 ?_
   try simp only [Act.put, pS]
   refine takeA 4 ?_
   try simp only [Act.put, pS]
   refine takeA 5 ?_
   try simp only [Act.put, pS]
   refine takeA 6 ?_
   try simp only [Act.put, pS]
   refine takeA 7 ?_
   try simp only [Act.put, pS]
   obtain ⟨V, hV⟩ : ∃ V, w.drew = V := ⟨_, rfl⟩
   have HGv : Hid (V.heap[g]? = some (.cells cur 112 (0, 0))) := by show _ = _; rw [← hV]; exact HG.out
   have HBv : Hid (Bk V b 112 ys.toArray) := by show Bk _ _ _ _; rw [← hV]; exact HBk.out
   have HWv : Hid (w.grownBy V (some g)) := by show World.grownBy _ _ _; rw [← hV]; exact ⟨rfl, rfl, rfl, Nat.le_refl _, fun _ _ _ => rfl⟩
   rw [hV]
   clear hV
   obtain ⟨row1, hrow1⟩ : ∃ r, cur.toList.take ((i + 1) * 2) ++ S1 ++ cur.toList.drop ((i + 1) * 2 + S1.length) = r := ⟨_, rfl⟩
   have hcp := fun ty => run_copyK (P := Tryz.prog) V 114 114 ty 112 i0 g ((i + 1) * 2) (n - i) (c - (i + 1)) ⟨g, i * 2, none⟩ (n + 1 - i) (c - i) (n - i) cur 112 S1 Tryz.underlying114 hi0 HGv.out (by simp only [Nat.min_def]; split <;> omega) (by rw [hSl, hy1]) (fun j u hu => by rw [Addr.add_lit]; exact cells_at HGv.out (by rw [HSd.out.symm.trans HS1.out]; exact hu)) (by rw [hSl, HCs.out]; omega) (fun u hu => H1.out u (by rw [← HS1.out] at hu; exact List.mem_of_mem_drop hu))
   simp only [hrow1] at hcp
   obtain ⟨W1, hW1⟩ : ∃ W1, V.setRow g row1.toArray = W1 := ⟨_, rfl⟩
   simp only [hW1] at hcp
   have HCp := Lib.hid hcp
   refine comeA 8 fun K hK => ?_
   refine wp_copyK (.tmp 73) (.tmp 76) 114 114 _ _ _ rfl rfl (HCp.out _) ?_
   refine hK.out _ _ trivial (fun _ => ?_)
   clear hK K
   try simp only [Act.put, pS]
   refine wpAnyH_done (by kernel_rfl) ?_ _
   try simp only [Act.put, pS]
   clear hcp HCp hov1
   have HR1 : Hid (row1 = cur.toList.take (i * 2 + 2) ++ (cur.toList.take (n * 2)).drop (i * 2) ++ cur.toList.drop (i * 2 + 2 + ((cur.toList.take (n * 2)).drop (i * 2)).length)) := by show _ = _; rw [← hrow1, ← HSd.out.symm.trans HS1.out, show (i + 1) * 2 = i * 2 + 2 by omega]
   have HI := Lib.hid (ins_room cur.toList ys (i * 2) (n * 2) 2 HY.out (by omega) (by rw [hcurl]; omega) row1 HR1.out)
   have HG1 : Hid (W1.heap[g]? = some (.cells row1.toArray 112 (0, 0))) := by show _ = _; rw [← hW1]; exact setRow_heap V g cur _ 112 _ HGv.out
   have HB1 : Hid (Bk W1 b 112 ys.toArray) := by show Bk _ _ _ _; rw [← hW1]; exact (setRow_other V g b _ hbne).trans HBv.out
   have HW1 : Hid (w.grownBy W1 (some g)) := by show World.grownBy _ _ _; rw [← hW1]; exact HWv.out.trans (grown_setRow _ _ _)
   have hr1s : row1.toArray.size = c * 2 := by rw [List.size_toArray, HI.out.2, hcurl]
   have hcp2 := fun ty => run_copyK (P := Tryz.prog) W1 114 114 ty 112 i0 g (i * 2) (n + 1 - i) (c - i) ⟨b, 0, none⟩ 1 1 1 row1.toArray 112 ys Tryz.underlying114 hi0 HG1.out (by simp only [Nat.min_def]; split <;> omega) (by rw [HY.out, hy1]) (fun j u hu => by rw [Addr.add_lit, Nat.zero_add, HB1.out.cell]; simpa using hu) (by rw [HY.out, hr1s]; omega) H2.out
   clear hW1 hrow1 HGv HBv HWv hSl
   obtain ⟨row2, hrow2⟩ : ∃ r, row1.toArray.toList.take (i * 2) ++ ys ++ row1.toArray.toList.drop (i * 2 + ys.length) = r := ⟨_, rfl⟩
   simp only [hrow2] at hcp2
   obtain ⟨W2, hW2⟩ : ∃ W2, W1.setRow g row2.toArray = W2 := ⟨_, rfl⟩
   simp only [hW2] at hcp2
   have HR2 := Lib.hid hrow2
   have HW2 := Lib.hid hW2
   clear hW2 hrow2
   go_wp2
   go_ret
   rw [← HW2.out]
   have hl2 : row2.length = c * 2 := by rw [← HR2.out, seg_len _ _ _ (by rw [HY.out]; show _ ≤ row1.toArray.toList.length; rw [Array.length_toList, hr1s]; omega), Array.length_toList, hr1s]
   refine ⟨_, rfl, own_shut hbg (setRow_heap W1 g row1.toArray _ 112 _ HG1.out) (by omega) hcm (by rw [List.size_toArray]; exact hl2) ?_, HW1.out.trans (grown_setRow _ _ _)⟩
   show row2.take ((n + 1) * 2) = _
   rw [← HR2.out, show (n + 1) * 2 = n * 2 + 2 by omega]
   refine HI.out.1.trans ?_
   rw [← HX.out]
  ·have hnr : (c : Int) < (n : Int) + 1 := by omega
   have hhead := cut_head (P := Tryz.prog) 114 elem_P size_P (some ⟨g, 0, none⟩) n c i (i : Int) rfl (by omega)
   have hold : (Builtin.firstCells i0.size i (.slice (some ⟨g, 0, none⟩) i c)).run Tryz.prog w.drew = .ok (xs.take (i * 2)).toArray w.drew := by
    rw [hy1]
    exact run_firstCells_some w.drew 2 i ⟨g, 0, none⟩ i c (xs.take (i * 2)) (by rw [List.length_take, HLen.out]; omega) (fun j u hu => by rw [Addr.add_lit, ← HX.out] at *; exact cells_at (o := 0) (p := i * 2) (w := w.drew) HG.out (by rw [List.drop_zero]; rw [List.take_take, Nat.min_eq_left (by omega)] at hu; exact hu))
   have hkk : (n : Int) + 1 - (i : Int) = ((n + 1 - i : Nat) : Int) := by omega
   have hin1 : i + (n + 1 - i) = n + 1 := by omega
   have hrz := Lib.run_append_grow_zeros (P := Tryz.prog) w 114 3 114 112 i0 _ .i64 .i64 Tryz.underlying114 Tryz.underlying3 hi0 hy0 (some ⟨g, 0, none⟩) i c (xs.take (i * 2)) hold (n + 1 - i) (by omega) (by rw [hy1]; decide) (by omega) (by omega) (by rw [hy2]; omega) (by rw [hy2, hin1]; exact growslice_fits (by omega) (by omega))
   rw [hin1, ← hkk] at hrz
   obtain ⟨G, hG⟩ : ∃ G, grownCap w (n + 1) c 112 = G := ⟨_, rfl⟩
   have hGge : n + 1 ≤ G := by rw [← hG]; exact grownCap_ge w (n + 1) c 112
   have hGle : G ≤ maxLen := by rw [← hG]; exact grownCap_le_maxLen w (n + 1) c 112 (by simp only [maxLen]; omega)
   rw [hG] at hrz
   have HRZ := Lib.hid hrz
   clear hrz hold hkk
   obtain ⟨ROW, hROW⟩ : ∃ ROW, (xs.take (i * 2)).toArray ++ Builtin.zeroCells #[Value.int .u64 0, Value.int .u64 0] (n + 1 - i) ++ Builtin.zeroCells #[Value.int .u64 0, Value.int .u64 0] (G - (n + 1)) = ROW := ⟨_, rfl⟩
   obtain ⟨W1, hW1⟩ : ∃ W1, w.drew.alloc (.cells ROW 112) = W1 := ⟨_, rfl⟩
   have HRZ2 : Hid ((Builtin.append_ #[114, 3] 114 #[.slice (some ⟨g, 0, none⟩) i c, .int .i64 ((n : Int) + 1 - (i : Int))]).run Tryz.prog w = .ok (.slice (some ⟨w.heap.size, 0, none⟩) (n + 1) G) W1) := by show _ = _; rw [← hW1, ← hROW]; exact HRZ.out
   have hRs : ROW.size = G * 2 := by rw [← hROW]; simp only [Array.size_append, List.size_toArray, size_zeroCells, List.length_take, HLen.out]; simp only [Value.cells, List.size_toArray, List.length_cons, List.length_nil]; omega
   have hRt : ROW.toList.take (i * 2) = xs.take (i * 2) := by rw [← hROW, Array.toList_append, Array.toList_append, List.append_assoc]; exact take_len (by rw [List.length_take, HLen.out]; omega)
   have HG1 : Hid (W1.heap[w.heap.size]? = some (.cells ROW 112 (0, 0))) := by show _ = _; rw [← hW1]; exact heap_alloc_new w.drew _
   have hgl : g < w.heap.size := (Array.getElem?_eq_some_iff.1 HG.out).1
   have HGo : Hid (W1.heap[g]? = some (.cells cur 112 (0, 0))) := by show _ = _; rw [← hW1]; exact (Below.heap_alloc w.drew _ g hgl).trans HG.out
   have HB1 : Hid (Bk W1 b 112 ys.toArray) := by show Bk _ _ _ _; rw [← hW1]; exact (Below.heap_alloc w.drew _ b HBk.out.lt).trans HBk.out
   have HW1 : Hid (w.grownBy W1 none) := by show World.grownBy _ _ _; rw [← hW1]; exact (show w.grownBy w.drew none from ⟨rfl, rfl, rfl, Nat.le_refl _, fun _ _ _ => rfl⟩).trans (World.grownBy_alloc _ _ _)
   clear hW1 hROW HRZ
   obtain ⟨g2, hg2⟩ : ∃ g2, w.heap.size = g2 := ⟨_, rfl⟩
   have Hg2 := Lib.hid hg2
   rw [hg2] at HRZ2 HG1
   have hgg : g ≠ g2 := by omega
   have hbg2 : b ≠ g2 := by have := HBk.out.lt; omega
   have hbs2 : base ≤ g2 := by omega
   clear hg2 hgl
   have hi4 : ¬ (G = i + 1) := by omega
   have hi5 : ¬ (G = i) := by omega
   have hi6 : ¬ (c = i) := by omega
   have hi2 : (0 : Int) ≤ (i : Int) + 1 := by omega
   have hi3 : (i : Int) ≤ (n : Int) + 1 := by omega
   have hcp1 := fun ty => run_copyK (P := Tryz.prog) W1 114 114 ty 112 i0 g2 (i * 2) (n + 1 - i) (G - i) ⟨b, 0, none⟩ 1 1 1 ROW 112 ys Tryz.underlying114 hi0 HG1.out (by simp only [Nat.min_def]; split <;> omega) (by rw [HY.out, hy1]) (fun j u hu => by rw [Addr.add_lit, Nat.zero_add, HB1.out.cell]; simpa using hu) (by rw [HY.out, hRs]; omega) H2.out
   obtain ⟨row1, hrow1⟩ : ∃ r, ROW.toList.take (i * 2) ++ ys ++ ROW.toList.drop (i * 2 + ys.length) = r := ⟨_, rfl⟩
   simp only [hrow1] at hcp1
   obtain ⟨W2, hW2⟩ : ∃ W2, W1.setRow g2 row1.toArray = W2 := ⟨_, rfl⟩
   simp only [hW2] at hcp1
   have HR1 := Lib.hid hrow1.symm
   have HI := Lib.hid (ins_grow xs ys ROW.toList (i * 2) (n * 2) 2 HY.out (by omega) (by rw [HLen.out]) hRt (by rw [Array.length_toList, hRs]; omega) row1 HR1.out)
   have hr1s : row1.toArray.size = G * 2 := by rw [List.size_toArray, HI.out.2.1, Array.length_toList, hRs]
   have HG2 : Hid (W2.heap[g2]? = some (.cells row1.toArray 112 (0, 0))) := by show _ = _; rw [← hW2]; exact setRow_heap W1 g2 ROW _ 112 _ HG1.out
   have HGo2 : Hid (W2.heap[g]? = some (.cells cur 112 (0, 0))) := by show _ = _; rw [← hW2]; exact (setRow_other W1 g2 g _ hgg).trans HGo.out
   have HW2 : Hid (w.grownBy W2 none) := by show World.grownBy _ _ _; rw [← hW2]; exact ⟨HW1.out.os, HW1.out.tape, HW1.out.output, Nat.le_trans HW1.out.size (by simp [World.setRow]), fun k hk hr => (setRow_other W1 g2 k _ (by have := Hg2.out; omega)).trans (HW1.out.block k hk hr)⟩
   have HSd : Hid (xs.drop (i * 2) = (cur.toList.take (n * 2)).drop (i * 2)) := by show _ = _; rw [← HX.out]
   obtain ⟨S1, hS1⟩ : ∃ S1, xs.drop (i * 2) = S1 := ⟨_, rfl⟩
   have HS1 := Lib.hid hS1
   have hSl : S1.length = (n - i) * 2 := by rw [← hS1, List.length_drop, HLen.out]; omega
   clear hrow1 hW2 hS1 hRt HGo HB1
   go_enter Tryz.func89, Tryz.ntmps89
   go_wp2_with (at_builtin; refine Lib.wpList_append_run _ (by rfl) (.tmp 34) (.tmp 39) 114 3 (by rfl) (.slice (some ⟨g, 0, none⟩) i c) (.int .i64 ((n : Int) + 1 - (i : Int))) (by rfl) (by rfl) _ _ HRZ2.out ?_)
   refine wp_region_held_drew (S := (fun _ => True)) (by kernel_rfl) ?_ (fun hHeld => ?_)
   ·trivial
   refine takeA 0 ?_
   try simp only [Act.put, pS]
   refine takeA 1 ?_
   try simp only [Act.put, pS]
   refine takeA 2 ?_
   try simp only [Act.put, pS]
   refine takeA 3 ?_
   try simp only [Act.put, pS]
   refine takeA 4 ?_
   try simp only [Act.put, pS]
   refine takeA 5 ?_
   try simp only [Act.put, pS]
   refine takeA 6 ?_
   try simp only [Act.put, pS]
   refine takeA 7 ?_
   try simp only [Act.put, pS]
   obtain ⟨V, hV⟩ : ∃ V, W2.drew = V := ⟨_, rfl⟩
   have HGv : Hid (V.heap[g2]? = some (.cells row1.toArray 112 (0, 0))) := by show _ = _; rw [← hV]; exact HG2.out
   have HGov : Hid (V.heap[g]? = some (.cells cur 112 (0, 0))) := by show _ = _; rw [← hV]; exact HGo2.out
   have HWv : Hid (w.grownBy V none) := by show World.grownBy _ _ _; rw [← hV]; exact ⟨HW2.out.os, HW2.out.tape, HW2.out.output, HW2.out.size, HW2.out.block⟩
   rw [hV]
   clear hV
   obtain ⟨row2, hrow2⟩ : ∃ r, row1.toArray.toList.take ((i + 1) * 2) ++ S1 ++ row1.toArray.toList.drop ((i + 1) * 2 + S1.length) = r := ⟨_, rfl⟩
   have hcp := fun ty => run_copyK (P := Tryz.prog) V 114 114 ty 112 i0 g2 ((i + 1) * 2) (n - i) (G - (i + 1)) ⟨g, i * 2, none⟩ (n - i) (c - i) (n - i) row1.toArray 112 S1 Tryz.underlying114 hi0 HGv.out (by simp only [Nat.min_def]; split <;> omega) (by rw [hSl, hy1]) (fun j u hu => by rw [Addr.add_lit]; exact cells_at HGov.out (by rw [HSd.out.symm.trans HS1.out]; exact hu)) (by rw [hSl, hr1s]; omega) (fun u hu => H1.out u (by rw [← HS1.out] at hu; exact List.mem_of_mem_drop hu))
   simp only [hrow2] at hcp
   have HCp := Lib.hid hcp
   refine comeA 8 fun K hK => ?_
   refine wp_copyK (.tmp 50) (.tmp 53) 114 114 _ _ _ rfl rfl (HCp.out _) ?_
   refine hK.out _ _ trivial (fun _ => ?_)
   clear hK K
   try simp only [Act.put, pS]
   refine wpAnyH_done (by kernel_rfl) ?_ _
   try simp only [Act.put, pS]
   clear hcp HCp
   have HR2 := Lib.hid hrow2
   clear hrow2
   go_wp2
   go_ret
   have e2 : row2 = row1.take (i * 2 + 2) ++ xs.drop (i * 2) ++ row1.drop (i * 2 + 2 + (xs.drop (i * 2)).length) := by rw [← HR2.out, HS1.out, show (i + 1) * 2 = i * 2 + 2 by omega]
   have hl2 : row2.length = G * 2 := by rw [e2, HI.out.2.2, Array.length_toList, hRs]
   refine ⟨_, rfl, own_shut hbs2 (setRow_heap V g2 row1.toArray _ 112 _ HGv.out) (by omega) hGle (by rw [List.size_toArray]; exact hl2) ?_, ?_⟩
   ·show row2.take ((n + 1) * 2) = _
    rw [e2, show (n + 1) * 2 = n * 2 + 2 by omega]
    exact HI.out.1
   ·exact ⟨HWv.out.os, HWv.out.tape, HWv.out.output, Nat.le_trans HWv.out.size (by simp [World.setRow]), fun k hk hr => (setRow_other V g2 k _ (by have := Hg2.out; omega)).trans (HWv.out.block k hk (by simp))⟩
end Go.Proofs.YtiiaingepbkikaaGreatDoor
