import Derived.Test.YtjggmimaolddkaaOrBB
import Derived.Test.YtjggmimaolddkaaOrAS
namespace Go.Proofs.Ytjggmimaolddkaa
open Go.RowKit
set_option linter.unusedVariables false
theorem info_box17 : (Try.prog.info? 93).map (fun i => (i.zero, i.size, i.bytes)) = some (some (.agg #[.int .u64 0, .int .u64 0, .int .u64 0, .int .u64 0, .int .u64 0, .int .u64 0, .int .u64 0, .int .u64 0, .int .u64 0]), 9, 72) := by kernel_rfl
theorem info_st17 : (Try.prog.info? 53).map (·.size) = some 17 := by kernel_rfl
def bxc (l : List PBox) : List Value := l.flatMap PBox.cells
theorem bxc_app (a b : List PBox) : bxc (a ++ b) = bxc a ++ bxc b := by simp [bxc]
theorem bxc_one {l : List PBox} (h : ∀ b ∈ l, b.words.length = 8) : ∀ u ∈ bxc l, u.oneCell' = true := by
 intro u hu
 obtain ⟨b, hb, hx⟩ := List.mem_flatMap.1 hu
 simp only [PBox.cells, u64s, List.mem_cons, List.mem_map] at hx
 rcases hx with rfl | ⟨z, _, rfl⟩ <;> rfl
theorem stV_len {roots : List Int} (h : roots.length = 16) (bv : Value) : (stV roots bv).toArray.size = 17 := by simp [stV, h]
theorem stV_bv {roots : List Int} (h : roots.length = 16) (bv : Value) : (stV roots bv).toArray[16]? = some bv := by
 rw [stV, List.getElem?_toArray, List.getElem?_append_right (by simp [h])]
 simp [h]
theorem stV_range {roots : List Int} (h : roots.length = 16) (bv : Value) {w : World} {g : Nat} {t : TypeId} (hb : Bk w g t (stV roots bv).toArray) : w.rangeAt g 0 (u64s roots) := by
 intro j v hv
 rw [Nat.zero_add, hb.cell, stV, List.getElem?_toArray, List.getElem?_append_left (List.getElem?_eq_some_iff.1 hv).1]
 exact hv
theorem stV_one {roots : List Int} (A : Option Addr) (n c : Nat) : (stV roots (.slice A n c)).toArray.all (·.oneCell') = true := by
 rw [Array.all_eq_true_iff_forall_mem]
 intro v hv
 simp [stV] at hv
 rcases hv with ⟨x, _, rfl⟩ | rfl <;> rfl
theorem built_st {roots : List Int} (h : roots.length = 16) (A : Option Addr) (n c : Nat) : Try.prog.built 53 [(0, .agg (u64s roots).toArray), (1, .slice A n c)] = some (stV roots (.slice A n c)).toArray := by
 obtain ⟨z0, z1, z2, z3, z4, z5, z6, z7, z8, z9, z10, z11, z12, z13, z14, z15, rfl⟩ := sixteen h
 kernel_rfl
theorem rf_new1 {w : World} (g : Nat) (hg : w.heap.size = g) (t : TypeId) (cs : Array Value) : Bk (w.alloc (.cells cs t)) g t cs := by subst hg; exact Bk.new _ _ _
def zeroSt : Array Value := #[.int .u64 0, .int .u64 0, .int .u64 0, .int .u64 0, .int .u64 0, .int .u64 0, .int .u64 0, .int .u64 0, .int .u64 0, .int .u64 0, .int .u64 0, .int .u64 0, .int .u64 0, .int .u64 0, .int .u64 0, .int .u64 0, .slice none 0 0]
set_option maxRecDepth 100000 in
set_option maxHeartbeats 4000000 in
theorem rfindx_any (M : Array Value) (l : List PBox) (A : Option Addr) (n c : Nat) (hb : M[16]? = some (.slice A n c)) (x : Int) (w : World) (hx : RdX w w.heap.size A n l) :
 Calls Try.prog 72 #[.agg M, .int .u64 x] w fun e w' => e = .returned (.int .i64 (findX x l 0)) ∧ Below w.heap.size w w' := by
 have hn := hx.rd.le
 unfold maxLen at hn
 have HX := Lib.hid hx
 have HL := Lib.hid hx.len
 have HB : Hid (Below w.heap.size w (w.alloc (.cells M 53))) := (Below.refl _ _).alloc (Nat.le_refl _) _
 have HK : Hid (Bk (w.alloc (.cells M 53)) w.heap.size 53 M) := Bk.new w _ _
 have hMb := Lib.hid hb
 clear hx hb
 go_enter Try.func72, Try.ntmps72
 go_wp2
 go_loopw [5] (fun i wr => ∃ k : Nat, (k ≤ n ∧ i = .int .i64 k) ∧ Hid (findX x (l.drop k) k = findX x l 0) ∧ wr = w.alloc (.cells M 53)) (fun i _ => n - (intOf i).toNat)
 case atStart => exact ⟨0, ⟨by omega, rfl⟩, rfl, rfl⟩
 case round =>
  obtain ⟨k, ⟨hk, rfl⟩, HG, hwr⟩ := hrel
  obtain ⟨W1, hW1⟩ : ∃ W1, w.alloc (.cells M 53) = W1 := ⟨_, rfl⟩
  rw [hW1] at hwr HB HK
  subst hwr
  have m16 : wr.cell? ⟨w.heap.size, 16, none⟩ = some (.slice A n c) := (HK.out.cell 16).trans hMb.out
  by_cases hlt : k < n
  ·have hlti : (k : Int) < (n : Int) := by omega
   obtain ⟨b, o, y, x0, x1, x2, x3, x4, x5, x6, x7, rfl, hbB, hlk, c0, _⟩ := (HX.out.below HB.out).at_ hlt
   have hkl : k < l.length := by rw [HL.out]; exact hlt
   have hdr : l.drop k = ⟨y, [x0, x1, x2, x3, x4, x5, x6, x7]⟩ :: l.drop (k + 1) := by
    rw [List.drop_eq_getElem_cons hkl]; rw [List.getElem?_eq_getElem hkl] at hlk; injection hlk with hlk; rw [hlk]
   have hg := HG.out
   rw [hdr, findX] at hg
   by_cases h0 : y = x
   ·rw [if_pos h0] at hg
    have HG2 := Lib.hid hg
    have e0 : (y == x) = true := beq_iff_eq.2 h0
    clear hg hdr hlk hkl
    go_wp2
    go_ret
    exact ⟨ret_int HG2.out, HB.out⟩
   ·rw [if_neg h0] at hg
    have HG2 := Lib.hid hg
    have e0 : (y == x) = false := beq_eq_false_iff_ne.2 h0
    clear hg hdr hlk hkl
    go_wp2
    go_roundw
    case rel => exact ⟨k + 1, ⟨by omega, by go_num⟩, HG2.out, hW1.symm⟩
    case measure => simp [intOf]; omega
  ·obtain rfl : k = n := by omega
   have hg := HG.out
   rw [List.drop_of_length_le (by rw [HL.out]; exact Nat.le_refl _)] at hg
   have HG2 : Hid (findX x l 0 = -1) := hg.symm
   clear hg
   go_wp2
   go_ret
   exact ⟨ret_int HG2.out.symm, HB.out⟩
theorem wpList_built {P : Program} {ops : Array Oper} {rest : List Oper} {o : Oper} {a : Act} {w : World} {Q : Exit → Act → World → Prop} (hg : o.guard = none) (t : TypeId) (parts : Array (Nat × Operand)) (ho : o.op = .build t parts) (vals : List (Nat × Value)) (hv : parts.toList.map (fun p => (p.1, a.eval p.2)) = vals) (cells : Array Value)
 (hb : P.built t vals = some cells) (h : wpList P ops Q rest (a.put o.dst (.agg cells)) w) : wpList P ops Q (o :: rest) a w := by
 have hp : P.built t (parts.map fun (i, x) => (i, a.eval x)).toList = some cells := by rw [Array.toList_map, ← hb, ← hv]
 exact wpList_build hg t parts ho (by rw [hp]; rfl) (by rw [hp]; exact h)
theorem res_st (p : Tmp) {fn : Func} (hr : fn.results = #[.cell p 53]) (tmps : Array Value) (w : World) (g : Nat) (cs : Array Value) (h17 : cs.size = 17) (hp : tmps.getD p undef = .pointer (some ⟨g, 0, none⟩)) (hg : Bk w g 53 cs) :
 (results fn tmps).run Try.prog w = .ok (.agg cs) w :=
 results_cell_row hr tmps w g 53 cs (0, 0) _ hp hg Try.underlying53 rfl (by rw [h17]; exact info_st17)
theorem without_snoc (x : Int) (l : List PBox) (b : PBox) : withoutX x (l ++ [b]) = withoutX x l ++ (if b.h ≠ x then [b] else []) := by
 unfold withoutX
 rw [List.filter_append, List.filter_cons]
 by_cases h : b.h = x
 ·simp [h]
 ·simp [h]
theorem RdX.of_own {w : World} {base n : Nat} {A : Option Addr} {c : Nat} {l : List PBox} (h : w.ownsRow base 93 9 (.slice A n c) n (bxc l)) (hl : l.length = n) (hok : ∀ b ∈ l, U64 b.h ∧ b.words.length = 8) : RdX w w.heap.size A n l := by
 obtain ⟨A', c', hv, hr⟩ := Rd.of_own h
 injection hv with h1 h2 h3
 subst h1
 exact ⟨hr, hl, hok⟩
structure OwnX (w : World) (base : Nat) (A : Option Addr) (n c : Nat) (l : List PBox) : Prop where
 own : w.ownsRow base 93 9 (.slice A n c) n (bxc l)
 len : l.length = n
 ok : ∀ b ∈ l, U64 b.h ∧ b.words.length = 8
theorem OwnX.rd {w : World} {base n c : Nat} {A : Option Addr} {l : List PBox} (h : OwnX w base A n c l) : RdX w w.heap.size A n l := RdX.of_own h.own h.len h.ok
set_option maxRecDepth 100000 in
set_option maxHeartbeats 8000000 in
theorem rwithout_any (roots : List Int) (h16 : roots.length = 16) (l : List PBox) (A : Option Addr) (n c : Nat) (x : Int) (w : World) (hx : RdX w w.heap.size A n l) (hn : n ≤ 1000000) :
 Calls Try.prog 75 #[.agg (stV roots (.slice A n c)).toArray, .int .u64 x] w fun e w' => (∃ A' n' c', e = .returned (.agg (stV roots (.slice A' n' c')).toArray) ∧ OwnX w' w.heap.size A' n' c' (withoutX x l)) ∧ Below w.heap.size w w' := by
 obtain ⟨ib, hib, hz0, hz1, hz2⟩ := info_parts info_box17
 have HX := Lib.hid hx
 have HL := Lib.hid hx.len
 have HOk := Lib.hid hx.ok
 obtain ⟨M, hM⟩ : ∃ M, (stV roots (.slice A n c)).toArray = M := ⟨_, rfl⟩
 have HMd := Lib.hid hM
 have hMb : M[16]? = some (.slice A n c) := by rw [← hM]; exact stV_bv h16 _
 have HMb := Lib.hid hMb
 rw [hM]
 clear hx hM hMb
 go_enter Try.func75, Try.ntmps75
 go_upto_region 2 with fail
 obtain ⟨W1, hW1⟩ : ∃ W1, ((w.alloc (.cells M 53)).alloc (.cells #[.int .u64 0, .int .u64 0, .int .u64 0, .int .u64 0, .int .u64 0, .int .u64 0, .int .u64 0, .int .u64 0, .int .u64 0, .int .u64 0, .int .u64 0, .int .u64 0, .int .u64 0, .int .u64 0, .int .u64 0, .int .u64 0, .slice none 0 0] 53)).alloc (.cells #[] 93) = W1 := ⟨_, rfl⟩
 have HB1 : Hid (Below w.heap.size w W1) := by show Below _ _ _; rw [← hW1]; exact (((Below.refl _ _).alloc (Nat.le_refl _) _).alloc (by simp) _).alloc (by simp; omega) _
 have HK1 : Hid (Bk W1 w.heap.size 53 M) := by show Bk _ _ _ _; rw [← hW1]; exact ((Bk.new w _ _).alloc _).alloc _
 have HZ1 : Hid (Bk W1 (w.heap.size + 1) 53 zeroSt) := by show Bk _ _ _ _; rw [← hW1]; exact (rf_new1 _ (by simp) _ _).alloc _
 have OWN1 : Hid (W1.ownsRow w.heap.size 93 9 (.slice (some ⟨w.heap.size + 1 + 1, 0, none⟩) 0 0) 0 (bxc [])) := by
  show World.ownsRow _ _ _ _ _ _ _
  rw [← hW1]
  have := World.ownsRow_made (size := 9) (e := 93) (base := w.heap.size) ((w.alloc (.cells M 53)).alloc (.cells #[.int .u64 0, .int .u64 0, .int .u64 0, .int .u64 0, .int .u64 0, .int .u64 0, .int .u64 0, .int .u64 0, .int .u64 0, .int .u64 0, .int .u64 0, .int .u64 0, .int .u64 0, .int .u64 0, .int .u64 0, .int .u64 0, .slice none 0 0] 53)) #[] 0 (by simp; omega) (by simp [maxLen]) rfl
  rw [show ((w.alloc (.cells M 53)).alloc (.cells #[.int .u64 0, .int .u64 0, .int .u64 0, .int .u64 0, .int .u64 0, .int .u64 0, .int .u64 0, .int .u64 0, .int .u64 0, .int .u64 0, .int .u64 0, .int .u64 0, .int .u64 0, .int .u64 0, .int .u64 0, .int .u64 0, .slice none 0 0] 53)).heap.size = w.heap.size + 1 + 1 by simp] at this
  exact this
 rw [hW1]
 clear hW1
 go_wp2
 go_loopw [5, 6] (fun ov i wr => ∃ (k q : Nat), (k ≤ n ∧ i = .int .i64 k ∧ q ≤ k) ∧ Hid ((withoutX x (l.take k)).length = q) ∧ Hid (wr.ownsRow w.heap.size 93 9 ov q (bxc (withoutX x (l.take k)))) ∧ Hid (Bk wr w.heap.size 53 M) ∧ Hid (Bk wr (w.heap.size + 1) 53 zeroSt) ∧ Hid (Below w.heap.size w wr)) (fun _ i _ => n - (intOf i).toNat)
 case atStart => exact ⟨0, 0, ⟨by omega, rfl, by omega⟩, rfl, OWN1.out, HK1.out, HZ1.out, HB1.out⟩
 case round =>
  obtain ⟨k, q, ⟨hk, rfl, hqk⟩, HQ, HO, HK, HZ, HB⟩ := hrel
  have m16 : wr.cell? ⟨w.heap.size, 16, none⟩ = some (.slice A n c) := (HK.out.cell 16).trans HMb.out
  obtain ⟨ov', co, rfl, hoc, _⟩ := Rd.of_own_cap HO.out
  by_cases hlt : k < n
  case neg =>
   obtain rfl : k = n := by omega
   have hO := HO.out
   have hQ := HQ.out
   rw [List.take_of_length_le (by rw [HL.out]; exact Nat.le_refl _)] at hO hQ
   have HOw := Lib.hid hO
   have HQw := Lib.hid hQ
   have HRg : Hid (wr.rangeAt w.heap.size 0 (u64s roots)) := stV_range h16 (.slice A k c) (by rw [HMd.out]; exact HK.out)
   have hi16 : (Try.prog.info? 50).map (·.size) = some (u64s roots).length := by rw [List.length_map, h16]; kernel_rfl
   clear hO hQ
   go_wp2_with (first
    | (refine wpList_load_mid (by rfl) 50 (.tmp 31) (by rfl) w.heap.size 0 (by rfl) (u64s roots) _ HRg.out Try.underlying50 (by rfl) hi16 ?_)
    | (refine wpList_built (by rfl) 53 #[(0, .tmp 32), (1, .tmp 33)] (by rfl) [(0, .agg (u64s roots).toArray), (1, .slice ov' q co)] (by rfl) (stV roots (.slice ov' q co)).toArray (built_st h16 ov' q co) ?_)
    | (refine wpList_store_row (by rfl) 53 (.tmp 4) (.tmp 34) (by rfl) (w.heap.size + 1) (stV roots (.slice ov' q co)).toArray (by rfl) (by rfl) 53 zeroSt HZ.out (by rw [stV_len h16]; exact info_st17) (by rw [stV_len h16]; rfl) (stV_one ov' q co) ?_))
   refine bodyPost_ret (res_st 4 rfl _ _ (w.heap.size + 1) (stV roots (.slice ov' q co)).toArray (stV_len h16 _) (by rfl) (HZ.out.setRow _)) rfl ?_
   refine ⟨⟨ov', q, co, rfl, ?_⟩, lbelow_setRow HB.out (Nat.le_succ _) _⟩
   exact ⟨HOw.out.kept (grown_setRow wr (w.heap.size + 1) _) (.inr (HZ.out.ne_own HOw.out (by decide))), HQw.out, fun b hb => HOk.out b (List.mem_filter.1 hb).1⟩
  have hlti : (k : Int) < (n : Int) := by omega
  obtain ⟨b, o, y, x0, x1, x2, x3, x4, x5, x6, x7, hA, hbB, hlk, c0, c1, c2, c3, c4, c5, c6, c7, c8⟩ := (HX.out.below HB.out).at_ hlt
  subst hA
  have htk : l.take (k + 1) = l.take k ++ [⟨y, [x0, x1, x2, x3, x4, x5, x6, x7]⟩] := by rw [List.take_add_one, hlk]; rfl
  have HTk : Hid (withoutX x (l.take (k + 1)) = withoutX x (l.take k) ++ (if y ≠ x then [⟨y, [x0, x1, x2, x3, x4, x5, x6, x7]⟩] else [])) := by show _ = _; rw [htk, without_snoc]
  clear htk hlk
  by_cases h0 : y = x
  ·have e0 : (y == x) = true := beq_iff_eq.2 h0
   have e02 : (y != x) = false := by rw [bne, e0]; rfl
   have hT := HTk.out
   rw [if_neg (by simpa using h0), List.append_nil] at hT
   have HT2 := Lib.hid hT
   clear hT
   go_wp2
   go_roundw
   case rel => exact ⟨k + 1, q, ⟨by omega, by go_num, by omega⟩, by show _ = _; rw [HT2.out]; exact HQ.out, by show World.ownsRow _ _ _ _ _ _ _; rw [HT2.out]; exact HO.out, HK.out, HZ.out, HB.out⟩
   case measure => simp [intOf]; omega
  ·have e0 : (y == x) = false := beq_eq_false_iff_ne.2 h0
   have e02 : (y != x) = true := bne_iff_ne.2 h0
   have hT := HTk.out
   rw [if_pos h0] at hT
   have HT2 := Lib.hid hT
   have HRa := Lib.hid (HO.out.alloc (.cells #[.int .u64 y, .int .u64 x0, .int .u64 x1, .int .u64 x2, .int .u64 x3, .int .u64 x4, .int .u64 x5, .int .u64 x6, .int .u64 x7] 93))
   have HBa := Lib.hid (HB.out.alloc HB.out.size (.cells #[.int .u64 y, .int .u64 x0, .int .u64 x1, .int .u64 x2, .int .u64 x3, .int .u64 x4, .int .u64 x5, .int .u64 x6, .int .u64 x7] 93))
   have HKa := Lib.hid (HK.out.alloc (.cells #[.int .u64 y, .int .u64 x0, .int .u64 x1, .int .u64 x2, .int .u64 x3, .int .u64 x4, .int .u64 x5, .int .u64 x6, .int .u64 x7] 93))
   have HZa := Lib.hid (HZ.out.alloc (.cells #[.int .u64 y, .int .u64 x0, .int .u64 x1, .int .u64 x2, .int .u64 x3, .int .u64 x4, .int .u64 x5, .int .u64 x6, .int .u64 x7] 93))
   have hz3 := HBa.out.size
   have Ra : Hid (Rd (wr.alloc (.cells #[.int .u64 y, .int .u64 x0, .int .u64 x1, .int .u64 x2, .int .u64 x3, .int .u64 x4, .int .u64 x5, .int .u64 x6, .int .u64 x7] 93)) (wr.heap.size + 1) 9 (some ⟨wr.heap.size, 0, none⟩) 1 (bxc [⟨y, [x0, x1, x2, x3, x4, x5, x6, x7]⟩])) := Rd.new wr _ _ (size := 9) (m := 1) rfl (by simp [maxLen])
   clear hT
   go_wp2_with (
    at_builtin
    go_must (
     refine wpList_app _ rfl (.tmp 23) (.tmp 29) 51 rfl w.heap.size 93 ib _ 9 72 Try.underlying51 hib hz0 hz1 hz2 rfl (by omega) _ _ _ rfl HRa.out _ _ 1 _ _ rfl Ra.out (bxc_one (fun b hb => by simp at hb; subst hb; rfl)) ?_ ?_ ?_ ?_
     ·simp only [maxLen]; omega
     ·omega
     ·exact hz3
     intro v7 w7 hown7 hg7 _
     have HB7 := Lib.hid (below_own HBa.out HRa.out hg7 (Nat.le_refl _) hz3)
     have HK7 := Lib.hid (HKa.out.grown hg7 (HKa.out.ne_own HRa.out (by decide)))
     have HZ7 := Lib.hid (HZa.out.grown hg7 (HZa.out.ne_own HRa.out (by decide)))
     obtain ⟨A7, c7, rfl, _, _⟩ := Rd.of_own_cap hown7
     have HO7 := Lib.hid hown7
     clear hown7 hg7))
   go_roundw
   case rel =>
    refine ⟨k + 1, q + 1, ⟨by omega, by go_num, by omega⟩, ?_, ?_, HK7.out, HZ7.out, HB7.out⟩
    ·show _ = _
     rw [HT2.out, List.length_append, HQ.out]; rfl
    ·show World.ownsRow _ _ _ _ _ _ _
     rw [HT2.out, bxc_app]
     exact HO7.out
   case measure => simp [intOf]; omega
theorem RdX.cellsAt {w : World} {B n b o : Nat} {l : List PBox} (h : RdX w B (some ⟨b, o, none⟩) n l) {k : Nat} {x x0 x1 x2 x3 x4 x5 x6 x7 : Int} (hk : l[k]? = some ⟨x, [x0, x1, x2, x3, x4, x5, x6, x7]⟩) :
 w.cell? ⟨b, o + k * 9, none⟩ = some (.int .u64 x) ∧ w.cell? ⟨b, o + k * 9 + 1, none⟩ = some (.int .u64 x0) ∧ w.cell? ⟨b, o + k * 9 + 2, none⟩ = some (.int .u64 x1) ∧ w.cell? ⟨b, o + k * 9 + 3, none⟩ = some (.int .u64 x2) ∧ w.cell? ⟨b, o + k * 9 + 4, none⟩ = some (.int .u64 x3) ∧
  w.cell? ⟨b, o + k * 9 + 5, none⟩ = some (.int .u64 x4) ∧ w.cell? ⟨b, o + k * 9 + 6, none⟩ = some (.int .u64 x5) ∧ w.cell? ⟨b, o + k * 9 + 7, none⟩ = some (.int .u64 x6) ∧ w.cell? ⟨b, o + k * 9 + 8, none⟩ = some (.int .u64 x7) := by
 have hkn : k < n := by rw [← h.len]; exact (List.getElem?_eq_some_iff.1 hk).1
 obtain ⟨b2, o2, y, y0, y1, y2, y3, y4, y5, y6, y7, hA, _, hl, c0, c1, c2, c3, c4, c5, c6, c7, c8⟩ := h.at_ hkn
 injection hA with hA
 injection hA with e1 e2 _
 subst e1 e2
 rw [hk] at hl
 simp only [Option.some.injEq, PBox.mk.injEq, List.cons.injEq, and_true] at hl
 obtain ⟨rfl, rfl, rfl, rfl, rfl, rfl, rfl, rfl, rfl⟩ := hl
 exact ⟨c0, c1, c2, c3, c4, c5, c6, c7, c8⟩
def WithPost (base : Nat) (roots : List Int) (l : List PBox) (e : Ending) (w' : World) : Prop := ∃ A' n' c', e = .returned (.agg (stV roots (.slice A' n' c')).toArray) ∧ OwnX w' base A' n' c' l
set_option maxRecDepth 100000 in
set_option maxHeartbeats 16000000 in
theorem rwith_any (roots : List Int) (h16 : roots.length = 16) (l : List PBox) (A : Option Addr) (n c : Nat) (h u0 u1 u2 u3 u4 u5 u6 u7 : Int) (hu : U64 h) (w : World) (hx : RdX w w.heap.size A n l) (hn : n ≤ 1000000) :
 Calls Try.prog 74 #[.agg (stV roots (.slice A n c)).toArray, .int .u64 h, .agg #[.int .u64 u0, .int .u64 u1, .int .u64 u2, .int .u64 u3, .int .u64 u4, .int .u64 u5, .int .u64 u6, .int .u64 u7]] w fun e w' => WithPost w.heap.size roots (withX h [u0, u1, u2, u3, u4, u5, u6, u7] l) e w' ∧ Below w.heap.size w w' := by
 obtain ⟨ib, hib, hz0, hz1, hz2⟩ := info_parts info_box17
 have HX := Lib.hid hx
 have HL := Lib.hid hx.len
 have HOk : Hid (∀ b ∈ withX h [u0, u1, u2, u3, u4, u5, u6, u7] l, U64 b.h ∧ b.words.length = 8) := fun b hb => by
  rcases (withGo_mem b).1 hb with rfl | ⟨h1, _⟩
  ·exact ⟨hu, rfl⟩
  ·exact hx.ok b h1
 obtain ⟨M, hM⟩ : ∃ M, (stV roots (.slice A n c)).toArray = M := ⟨_, rfl⟩
 have HMd := Lib.hid hM
 have hMb : M[16]? = some (.slice A n c) := by rw [← hM]; exact stV_bv h16 _
 have HMb := Lib.hid hMb
 rw [hM]
 clear hx hM hMb
 go_enter Try.func74, Try.ntmps74
 go_upto_region 2 with fail
 obtain ⟨W1, hW1⟩ : ∃ W1, (((w.alloc (.cells M 53)).alloc (.cells #[.int .u64 u0, .int .u64 u1, .int .u64 u2, .int .u64 u3, .int .u64 u4, .int .u64 u5, .int .u64 u6, .int .u64 u7] 91)).alloc (.cells #[.int .u64 0, .int .u64 0, .int .u64 0, .int .u64 0, .int .u64 0, .int .u64 0, .int .u64 0, .int .u64 0, .int .u64 0, .int .u64 0, .int .u64 0, .int .u64 0, .int .u64 0, .int .u64 0, .int .u64 0, .int .u64 0, .slice none 0 0] 53)).alloc (.cells #[] 93) = W1 := ⟨_, rfl⟩
 have HB1 : Hid (Below w.heap.size w W1) := by show Below _ _ _; rw [← hW1]; exact ((((Below.refl _ _).alloc (Nat.le_refl _) _).alloc (by simp) _).alloc (by simp; omega) _).alloc (by simp; omega) _
 have HK1 : Hid (Bk W1 w.heap.size 53 M) := by show Bk _ _ _ _; rw [← hW1]; exact (((Bk.new w _ _).alloc _).alloc _).alloc _
 have HW1 : Hid (Bk W1 (w.heap.size + 1) 91 #[.int .u64 u0, .int .u64 u1, .int .u64 u2, .int .u64 u3, .int .u64 u4, .int .u64 u5, .int .u64 u6, .int .u64 u7]) := by show Bk _ _ _ _; rw [← hW1]; exact ((rf_new1 _ (by simp) _ _).alloc _).alloc _
 have HZ1 : Hid (Bk W1 (w.heap.size + 1 + 1) 53 zeroSt) := by show Bk _ _ _ _; rw [← hW1]; exact (rf_new1 _ (by simp) _ _).alloc _
 have OWN1 : Hid (W1.ownsRow w.heap.size 93 9 (.slice (some ⟨w.heap.size + 1 + 1 + 1, 0, none⟩) 0 0) 0 (bxc [])) := by
  show World.ownsRow _ _ _ _ _ _ _
  rw [← hW1]
  have := World.ownsRow_made (size := 9) (e := 93) (base := w.heap.size) (((w.alloc (.cells M 53)).alloc (.cells #[.int .u64 u0, .int .u64 u1, .int .u64 u2, .int .u64 u3, .int .u64 u4, .int .u64 u5, .int .u64 u6, .int .u64 u7] 91)).alloc (.cells #[.int .u64 0, .int .u64 0, .int .u64 0, .int .u64 0, .int .u64 0, .int .u64 0, .int .u64 0, .int .u64 0, .int .u64 0, .int .u64 0, .int .u64 0, .int .u64 0, .int .u64 0, .int .u64 0, .int .u64 0, .int .u64 0, .slice none 0 0] 53)) #[] 0 (by simp; omega) (by simp [maxLen]) rfl
  rw [show (((w.alloc (.cells M 53)).alloc (.cells #[.int .u64 u0, .int .u64 u1, .int .u64 u2, .int .u64 u3, .int .u64 u4, .int .u64 u5, .int .u64 u6, .int .u64 u7] 91)).alloc (.cells #[.int .u64 0, .int .u64 0, .int .u64 0, .int .u64 0, .int .u64 0, .int .u64 0, .int .u64 0, .int .u64 0, .int .u64 0, .int .u64 0, .int .u64 0, .int .u64 0, .int .u64 0, .int .u64 0, .int .u64 0, .int .u64 0, .slice none 0 0] 53)).heap.size = w.heap.size + 1 + 1 + 1 by simp] at this
  exact this
 rw [hW1]
 clear hW1
 go_wp2
 go_loopw [7, 8, 9] (fun ov dv i wr => ∃ (k q : Nat) (d : Bool) (P : List PBox), (k ≤ n ∧ i = .int .i64 k ∧ dv = .bool d ∧ q ≤ k + (if d then 1 else 0)) ∧ Hid (P.length = q) ∧ Hid (P ++ withGo h [u0, u1, u2, u3, u4, u5, u6, u7] d (l.drop k) = withX h [u0, u1, u2, u3, u4, u5, u6, u7] l) ∧ Hid (wr.ownsRow w.heap.size 93 9 ov q (bxc P)) ∧ Hid (Bk wr w.heap.size 53 M) ∧ Hid (Bk wr (w.heap.size + 1 + 1) 53 zeroSt) ∧ Hid (Bk wr (w.heap.size + 1) 91 #[.int .u64 u0, .int .u64 u1, .int .u64 u2, .int .u64 u3, .int .u64 u4, .int .u64 u5, .int .u64 u6, .int .u64 u7]) ∧ Hid (Below w.heap.size w wr)) (fun _ _ i _ => n - (intOf i).toNat)
 case atStart => exact ⟨0, 0, false, [], ⟨by omega, rfl, rfl, by simp⟩, rfl, rfl, OWN1.out, HK1.out, HZ1.out, HW1.out, HB1.out⟩
 case round =>
  obtain ⟨k, q, d, P, ⟨hk, rfl, rfl, hqk⟩, HQ, HI, HO, HK, HZ, HW, HB⟩ := hrel
  have m16 : wr.cell? ⟨w.heap.size, 16, none⟩ = some (.slice A n c) := (HK.out.cell 16).trans HMb.out
  obtain ⟨ov', co, rfl, hoc, _⟩ := Rd.of_own_cap HO.out
  have hqn : q ≤ n + 1 := by split at hqk <;> omega
  by_cases hlt : k < n
  case neg =>
   obtain rfl : k = n := by omega
   have hI := HI.out
   rw [List.drop_of_length_le (by rw [HL.out]; exact Nat.le_refl _)] at hI
   have HRg : Hid (wr.rangeAt w.heap.size 0 (u64s roots)) := stV_range h16 (.slice A k c) (by rw [HMd.out]; exact HK.out)
   have hi16 : (Try.prog.info? 50).map (·.size) = some (u64s roots).length := by rw [List.length_map, h16]; kernel_rfl
   cases d with
   | true =>
     have hI2 : P = withX h [u0, u1, u2, u3, u4, u5, u6, u7] l := by rw [← hI, withGo, if_pos rfl, List.append_nil]
     subst hI2
     clear hI
     go_wp2_with (first
      | (refine wpList_load_mid (by rfl) 50 (.tmp 60) (by rfl) w.heap.size 0 (by rfl) (u64s roots) _ HRg.out Try.underlying50 (by rfl) hi16 ?_)
      | (refine wpList_built (by rfl) 53 #[(0, .tmp 61), (1, .tmp 62)] (by rfl) [(0, .agg (u64s roots).toArray), (1, .slice ov' q co)] (by rfl) (stV roots (.slice ov' q co)).toArray (built_st h16 ov' q co) ?_)
      | (refine wpList_store_row (by rfl) 53 (.tmp 6) (.tmp 63) (by rfl) (w.heap.size + 1 + 1) (stV roots (.slice ov' q co)).toArray (by rfl) (by rfl) 53 zeroSt HZ.out (by rw [stV_len h16]; exact info_st17) (by rw [stV_len h16]; rfl) (stV_one ov' q co) ?_))
     refine bodyPost_ret (res_st 6 rfl _ _ (w.heap.size + 1 + 1) (stV roots (.slice ov' q co)).toArray (stV_len h16 _) (by rfl) (HZ.out.setRow _)) rfl ?_
     refine ⟨⟨ov', q, co, rfl, ?_⟩, lbelow_setRow HB.out (by omega) _⟩
     exact ⟨HO.out.kept (grown_setRow wr (w.heap.size + 1 + 1) _) (.inr (HZ.out.ne_own HO.out (by decide))), HQ.out, HOk.out⟩
   | false =>
     have hI2 : P ++ [⟨h, [u0, u1, u2, u3, u4, u5, u6, u7]⟩] = withX h [u0, u1, u2, u3, u4, u5, u6, u7] l := hI
     have HI2 := Lib.hid hI2
     clear hI hI2
     have v0 : wr.cell? ⟨w.heap.size + 1, 0, none⟩ = some (.int .u64 u0) := HW.out.cell 0
     have v1 : wr.cell? ⟨w.heap.size + 1, 1, none⟩ = some (.int .u64 u1) := HW.out.cell 1
     have v2 : wr.cell? ⟨w.heap.size + 1, 2, none⟩ = some (.int .u64 u2) := HW.out.cell 2
     have v3 : wr.cell? ⟨w.heap.size + 1, 3, none⟩ = some (.int .u64 u3) := HW.out.cell 3
     have v4 : wr.cell? ⟨w.heap.size + 1, 4, none⟩ = some (.int .u64 u4) := HW.out.cell 4
     have v5 : wr.cell? ⟨w.heap.size + 1, 5, none⟩ = some (.int .u64 u5) := HW.out.cell 5
     have v6 : wr.cell? ⟨w.heap.size + 1, 6, none⟩ = some (.int .u64 u6) := HW.out.cell 6
     have v7 : wr.cell? ⟨w.heap.size + 1, 7, none⟩ = some (.int .u64 u7) := HW.out.cell 7
     have HRa := Lib.hid (HO.out.alloc (.cells #[.int .u64 h, .int .u64 u0, .int .u64 u1, .int .u64 u2, .int .u64 u3, .int .u64 u4, .int .u64 u5, .int .u64 u6, .int .u64 u7] 93))
     have HBa := Lib.hid (HB.out.alloc HB.out.size (.cells #[.int .u64 h, .int .u64 u0, .int .u64 u1, .int .u64 u2, .int .u64 u3, .int .u64 u4, .int .u64 u5, .int .u64 u6, .int .u64 u7] 93))
     have HKa := Lib.hid (HK.out.alloc (.cells #[.int .u64 h, .int .u64 u0, .int .u64 u1, .int .u64 u2, .int .u64 u3, .int .u64 u4, .int .u64 u5, .int .u64 u6, .int .u64 u7] 93))
     have HZa := Lib.hid (HZ.out.alloc (.cells #[.int .u64 h, .int .u64 u0, .int .u64 u1, .int .u64 u2, .int .u64 u3, .int .u64 u4, .int .u64 u5, .int .u64 u6, .int .u64 u7] 93))
     have HWa := Lib.hid (HW.out.alloc (.cells #[.int .u64 h, .int .u64 u0, .int .u64 u1, .int .u64 u2, .int .u64 u3, .int .u64 u4, .int .u64 u5, .int .u64 u6, .int .u64 u7] 93))
     have hz3 := HBa.out.size
     have Ra : Hid (Rd (wr.alloc (.cells #[.int .u64 h, .int .u64 u0, .int .u64 u1, .int .u64 u2, .int .u64 u3, .int .u64 u4, .int .u64 u5, .int .u64 u6, .int .u64 u7] 93)) (wr.heap.size + 1) 9 (some ⟨wr.heap.size, 0, none⟩) 1 (bxc [⟨h, [u0, u1, u2, u3, u4, u5, u6, u7]⟩])) := Rd.new wr _ _ (size := 9) (m := 1) rfl (by simp [maxLen])
     go_upto_region 13 with (
      at_builtin
      go_must (
       refine wpList_app _ rfl (.tmp 54) (.tmp 58) 51 rfl w.heap.size 93 ib _ 9 72 Try.underlying51 hib hz0 hz1 hz2 rfl (by omega) _ _ _ rfl HRa.out _ _ 1 _ _ rfl Ra.out (bxc_one (fun b hb => by simp at hb; subst hb; rfl)) ?_ ?_ ?_ ?_
       ·simp only [maxLen]; omega
       ·omega
       ·exact hz3
       intro v7 w7 hown7 hg7 _
       have HB := Lib.hid (below_own HBa.out HRa.out hg7 (Nat.le_refl _) hz3)
       have HK := Lib.hid (HKa.out.grown hg7 (HKa.out.ne_own HRa.out (by decide)))
       have HZ := Lib.hid (HZa.out.grown hg7 (HZa.out.ne_own HRa.out (by decide)))
       have HW := Lib.hid (HWa.out.grown hg7 (HWa.out.ne_own HRa.out (by decide)))
       rw [← bxc_app] at hown7
       obtain ⟨A7, c7, rfl, _, _⟩ := Rd.of_own_cap hown7
       have HO := Lib.hid hown7
       clear hown7 hg7))
     have HRg : Hid (w7.rangeAt w.heap.size 0 (u64s roots)) := stV_range h16 (.slice A k c) (by rw [HMd.out]; exact HK.out)
     rw [HI2.out] at HO
     have HQ2 : Hid ((withX h [u0, u1, u2, u3, u4, u5, u6, u7] l).length = q + 1) := by show _ = _; rw [← HI2.out, List.length_append, HQ.out]; rfl
     go_wp2_with (first
      | (refine wpList_load_mid (by rfl) 50 (.tmp 60) (by rfl) w.heap.size 0 (by rfl) (u64s roots) _ HRg.out Try.underlying50 (by rfl) hi16 ?_)
      | (refine wpList_built (by rfl) 53 #[(0, .tmp 61), (1, .tmp 62)] (by rfl) [(0, .agg (u64s roots).toArray), (1, .slice A7 (q + 1) c7)] (by rfl) (stV roots (.slice A7 (q + 1) c7)).toArray (built_st h16 A7 (q + 1) c7) ?_)
      | (refine wpList_store_row (by rfl) 53 (.tmp 6) (.tmp 63) (by rfl) (w.heap.size + 1 + 1) (stV roots (.slice A7 (q + 1) c7)).toArray (by rfl) (by rfl) 53 zeroSt HZ.out (by rw [stV_len h16]; exact info_st17) (by rw [stV_len h16]; rfl) (stV_one A7 (q + 1) c7) ?_))
     refine bodyPost_ret (res_st 6 rfl _ _ (w.heap.size + 1 + 1) (stV roots (.slice A7 (q + 1) c7)).toArray (stV_len h16 _) (by rfl) (HZ.out.setRow _)) rfl ?_
     refine ⟨⟨A7, q + 1, c7, rfl, ?_⟩, lbelow_setRow HB.out (by omega) _⟩
     exact ⟨HO.out.kept (grown_setRow w7 (w.heap.size + 1 + 1) _) (.inr (HZ.out.ne_own HO.out (by decide))), HQ2.out, HOk.out⟩
  have hlti : (k : Int) < (n : Int) := by omega
  obtain ⟨b, o, y, x0, x1, x2, x3, x4, x5, x6, x7, hA, hbB, hlk, c0, c1, c2, c3, c4, c5, c6, c7, c8⟩ := (HX.out.below HB.out).at_ hlt
  subst hA
  have hkl : k < l.length := by rw [HL.out]; exact hlt
  have hdr : l.drop k = ⟨y, [x0, x1, x2, x3, x4, x5, x6, x7]⟩ :: l.drop (k + 1) := by
   have hlk2 := hlk
   rw [List.drop_eq_getElem_cons hkl]; rw [List.getElem?_eq_getElem hkl] at hlk2; injection hlk2 with hlk2; rw [hlk2]
  have HLk := Lib.hid hlk
  have hI := HI.out
  rw [hdr, withGo] at hI
  clear hlk hdr hkl c1 c2 c3 c4 c5 c6 c7 c8
  cases d with
  | true =>
    have HI : Hid (P ++ ((if y ≠ h then [⟨y, [x0, x1, x2, x3, x4, x5, x6, x7]⟩] else []) ++ withGo h [u0, u1, u2, u3, u4, u5, u6, u7] true (l.drop (k + 1))) = withX h [u0, u1, u2, u3, u4, u5, u6, u7] l) := hI
    have HQ1 := HQ
    simp only [if_true] at hqk
    clear hI
    go_upto_region 9 with fail
    obtain ⟨d0, d1, d2, d3, d4, d5, d6, d7, d8⟩ := (HX.out.below HB.out).cellsAt HLk.out
    have m16 : wr.cell? ⟨w.heap.size, 16, none⟩ = some (.slice (some ⟨b, o, none⟩) n c) := (HK.out.cell 16).trans HMb.out
    by_cases hy : y = h
    ·have e0 : (y == h) = true := beq_iff_eq.2 hy
     have e02 : (y != h) = false := by rw [bne, e0]; rfl
     have hI := HI.out
     rw [if_neg (by simpa using hy), List.nil_append] at hI
     have HI2 := Lib.hid hI
     clear hI
     go_wp2
     go_roundw
     case rel => exact ⟨k + 1, _, true, _, ⟨by omega, by go_num, rfl, by simp; omega⟩, HQ1.out, HI2.out, HO.out, HK.out, HZ.out, HW.out, HB.out⟩
     case measure => simp [intOf]; omega
    ·have e0 : (y == h) = false := beq_eq_false_iff_ne.2 hy
     have e02 : (y != h) = true := bne_iff_ne.2 hy
     have hI := HI.out
     rw [if_pos hy, ← List.append_assoc] at hI
     have HI2 := Lib.hid hI
     clear hI
     have HRa := Lib.hid (HO.out.alloc (.cells #[.int .u64 y, .int .u64 x0, .int .u64 x1, .int .u64 x2, .int .u64 x3, .int .u64 x4, .int .u64 x5, .int .u64 x6, .int .u64 x7] 93))
     have HBa := Lib.hid (HB.out.alloc HB.out.size (.cells #[.int .u64 y, .int .u64 x0, .int .u64 x1, .int .u64 x2, .int .u64 x3, .int .u64 x4, .int .u64 x5, .int .u64 x6, .int .u64 x7] 93))
     have HKa := Lib.hid (HK.out.alloc (.cells #[.int .u64 y, .int .u64 x0, .int .u64 x1, .int .u64 x2, .int .u64 x3, .int .u64 x4, .int .u64 x5, .int .u64 x6, .int .u64 x7] 93))
     have HZa := Lib.hid (HZ.out.alloc (.cells #[.int .u64 y, .int .u64 x0, .int .u64 x1, .int .u64 x2, .int .u64 x3, .int .u64 x4, .int .u64 x5, .int .u64 x6, .int .u64 x7] 93))
     have HWa := Lib.hid (HW.out.alloc (.cells #[.int .u64 y, .int .u64 x0, .int .u64 x1, .int .u64 x2, .int .u64 x3, .int .u64 x4, .int .u64 x5, .int .u64 x6, .int .u64 x7] 93))
     have hz3 := HBa.out.size
     have Ra : Hid (Rd (wr.alloc (.cells #[.int .u64 y, .int .u64 x0, .int .u64 x1, .int .u64 x2, .int .u64 x3, .int .u64 x4, .int .u64 x5, .int .u64 x6, .int .u64 x7] 93)) (wr.heap.size + 1) 9 (some ⟨wr.heap.size, 0, none⟩) 1 (bxc [⟨y, [x0, x1, x2, x3, x4, x5, x6, x7]⟩])) := Rd.new wr _ _ (size := 9) (m := 1) rfl (by simp [maxLen])
     go_wp2_with (
      at_builtin
      go_must (
       refine wpList_app _ rfl (.tmp 44) (.tmp 50) 51 rfl w.heap.size 93 ib _ 9 72 Try.underlying51 hib hz0 hz1 hz2 rfl (by omega) _ _ _ rfl HRa.out _ _ 1 _ _ rfl Ra.out (bxc_one (fun b hb => by simp at hb; subst hb; rfl)) ?_ ?_ ?_ ?_
       ·simp only [maxLen]; omega
       ·omega
       ·exact hz3
       intro v7 w7 hown7 hg7 _
       have HB := Lib.hid (below_own HBa.out HRa.out hg7 (Nat.le_refl _) hz3)
       have HK := Lib.hid (HKa.out.grown hg7 (HKa.out.ne_own HRa.out (by decide)))
       have HZ := Lib.hid (HZa.out.grown hg7 (HZa.out.ne_own HRa.out (by decide)))
       have HW := Lib.hid (HWa.out.grown hg7 (HWa.out.ne_own HRa.out (by decide)))
       rw [← bxc_app] at hown7
       obtain ⟨A7, c7, rfl, _, _⟩ := Rd.of_own_cap hown7
       have HO := Lib.hid hown7
       clear hown7 hg7))
     go_roundw
     case rel => exact ⟨k + 1, _, true, _, ⟨by omega, by go_num, rfl, by simp; omega⟩, by show _ = _; rw [List.length_append, HQ1.out]; rfl, HI2.out, HO.out, HK.out, HZ.out, HW.out, HB.out⟩
     case measure => simp [intOf]; omega
  | false =>
    simp only [Bool.false_eq_true, if_false, Nat.add_zero] at hqk
    by_cases hhy : h ≤ y
    ·have ehy : decide (h ≤ y) = true := decide_eq_true hhy
     rw [ehy] at hI
     have HI : Hid ((P ++ ([⟨h, [u0, u1, u2, u3, u4, u5, u6, u7]⟩] : List PBox)) ++ ((if y ≠ h then [⟨y, [x0, x1, x2, x3, x4, x5, x6, x7]⟩] else []) ++ withGo h [u0, u1, u2, u3, u4, u5, u6, u7] true (l.drop (k + 1))) = withX h [u0, u1, u2, u3, u4, u5, u6, u7] l) := by show _ = _; rw [List.append_assoc]; exact hI
     have HQ1 : Hid ((P ++ ([⟨h, [u0, u1, u2, u3, u4, u5, u6, u7]⟩] : List PBox)).length = q + 1) := by show _ = _; rw [List.length_append, HQ.out]; rfl
     clear hI ehy
     have v0 : wr.cell? ⟨w.heap.size + 1, 0, none⟩ = some (.int .u64 u0) := HW.out.cell 0
     have v1 : wr.cell? ⟨w.heap.size + 1, 1, none⟩ = some (.int .u64 u1) := HW.out.cell 1
     have v2 : wr.cell? ⟨w.heap.size + 1, 2, none⟩ = some (.int .u64 u2) := HW.out.cell 2
     have v3 : wr.cell? ⟨w.heap.size + 1, 3, none⟩ = some (.int .u64 u3) := HW.out.cell 3
     have v4 : wr.cell? ⟨w.heap.size + 1, 4, none⟩ = some (.int .u64 u4) := HW.out.cell 4
     have v5 : wr.cell? ⟨w.heap.size + 1, 5, none⟩ = some (.int .u64 u5) := HW.out.cell 5
     have v6 : wr.cell? ⟨w.heap.size + 1, 6, none⟩ = some (.int .u64 u6) := HW.out.cell 6
     have v7 : wr.cell? ⟨w.heap.size + 1, 7, none⟩ = some (.int .u64 u7) := HW.out.cell 7
     have HRa := Lib.hid (HO.out.alloc (.cells #[.int .u64 h, .int .u64 u0, .int .u64 u1, .int .u64 u2, .int .u64 u3, .int .u64 u4, .int .u64 u5, .int .u64 u6, .int .u64 u7] 93))
     have HBa := Lib.hid (HB.out.alloc HB.out.size (.cells #[.int .u64 h, .int .u64 u0, .int .u64 u1, .int .u64 u2, .int .u64 u3, .int .u64 u4, .int .u64 u5, .int .u64 u6, .int .u64 u7] 93))
     have HKa := Lib.hid (HK.out.alloc (.cells #[.int .u64 h, .int .u64 u0, .int .u64 u1, .int .u64 u2, .int .u64 u3, .int .u64 u4, .int .u64 u5, .int .u64 u6, .int .u64 u7] 93))
     have HZa := Lib.hid (HZ.out.alloc (.cells #[.int .u64 h, .int .u64 u0, .int .u64 u1, .int .u64 u2, .int .u64 u3, .int .u64 u4, .int .u64 u5, .int .u64 u6, .int .u64 u7] 93))
     have HWa := Lib.hid (HW.out.alloc (.cells #[.int .u64 h, .int .u64 u0, .int .u64 u1, .int .u64 u2, .int .u64 u3, .int .u64 u4, .int .u64 u5, .int .u64 u6, .int .u64 u7] 93))
     have hz3 := HBa.out.size
     have Ra : Hid (Rd (wr.alloc (.cells #[.int .u64 h, .int .u64 u0, .int .u64 u1, .int .u64 u2, .int .u64 u3, .int .u64 u4, .int .u64 u5, .int .u64 u6, .int .u64 u7] 93)) (wr.heap.size + 1) 9 (some ⟨wr.heap.size, 0, none⟩) 1 (bxc [⟨h, [u0, u1, u2, u3, u4, u5, u6, u7]⟩])) := Rd.new wr _ _ (size := 9) (m := 1) rfl (by simp [maxLen])
     go_upto_region 9 with (
      at_builtin
      go_must (
       refine wpList_app _ rfl (.tmp 30) (.tmp 34) 51 rfl w.heap.size 93 ib _ 9 72 Try.underlying51 hib hz0 hz1 hz2 rfl (by omega) _ _ _ rfl HRa.out _ _ 1 _ _ rfl Ra.out (bxc_one (fun b hb => by simp at hb; subst hb; rfl)) ?_ ?_ ?_ ?_
       ·simp only [maxLen]; omega
       ·omega
       ·exact hz3
       intro v7 w7 hown7 hg7 _
       have HB := Lib.hid (below_own HBa.out HRa.out hg7 (Nat.le_refl _) hz3)
       have HK := Lib.hid (HKa.out.grown hg7 (HKa.out.ne_own HRa.out (by decide)))
       have HZ := Lib.hid (HZa.out.grown hg7 (HZa.out.ne_own HRa.out (by decide)))
       have HW := Lib.hid (HWa.out.grown hg7 (HWa.out.ne_own HRa.out (by decide)))
       rw [← bxc_app] at hown7
       obtain ⟨A7, c7, rfl, _, _⟩ := Rd.of_own_cap hown7
       have HO := Lib.hid hown7
       clear hown7 hg7))
     clear v0 v1 v2 v3 v4 v5 v6 v7 m16 c0 HRa HBa HKa HZa HWa Ra hz3
     obtain ⟨d0, d1, d2, d3, d4, d5, d6, d7, d8⟩ := (HX.out.below HB.out).cellsAt HLk.out
     have m16 : w7.cell? ⟨w.heap.size, 16, none⟩ = some (.slice (some ⟨b, o, none⟩) n c) := (HK.out.cell 16).trans HMb.out
     by_cases hy : y = h
     ·have e0 : (y == h) = true := beq_iff_eq.2 hy
      have e02 : (y != h) = false := by rw [bne, e0]; rfl
      have hI := HI.out
      rw [if_neg (by simpa using hy), List.nil_append] at hI
      have HI2 := Lib.hid hI
      clear hI
      go_wp2
      go_roundw
      case rel => exact ⟨k + 1, _, true, _, ⟨by omega, by go_num, rfl, by simp; omega⟩, HQ1.out, HI2.out, HO.out, HK.out, HZ.out, HW.out, HB.out⟩
      case measure => simp [intOf]; omega
     ·have e0 : (y == h) = false := beq_eq_false_iff_ne.2 hy
      have e02 : (y != h) = true := bne_iff_ne.2 hy
      have hI := HI.out
      rw [if_pos hy, ← List.append_assoc] at hI
      have HI2 := Lib.hid hI
      clear hI
      have HRa := Lib.hid (HO.out.alloc (.cells #[.int .u64 y, .int .u64 x0, .int .u64 x1, .int .u64 x2, .int .u64 x3, .int .u64 x4, .int .u64 x5, .int .u64 x6, .int .u64 x7] 93))
      have HBa := Lib.hid (HB.out.alloc HB.out.size (.cells #[.int .u64 y, .int .u64 x0, .int .u64 x1, .int .u64 x2, .int .u64 x3, .int .u64 x4, .int .u64 x5, .int .u64 x6, .int .u64 x7] 93))
      have HKa := Lib.hid (HK.out.alloc (.cells #[.int .u64 y, .int .u64 x0, .int .u64 x1, .int .u64 x2, .int .u64 x3, .int .u64 x4, .int .u64 x5, .int .u64 x6, .int .u64 x7] 93))
      have HZa := Lib.hid (HZ.out.alloc (.cells #[.int .u64 y, .int .u64 x0, .int .u64 x1, .int .u64 x2, .int .u64 x3, .int .u64 x4, .int .u64 x5, .int .u64 x6, .int .u64 x7] 93))
      have HWa := Lib.hid (HW.out.alloc (.cells #[.int .u64 y, .int .u64 x0, .int .u64 x1, .int .u64 x2, .int .u64 x3, .int .u64 x4, .int .u64 x5, .int .u64 x6, .int .u64 x7] 93))
      have hz3 := HBa.out.size
      have Ra : Hid (Rd (w7.alloc (.cells #[.int .u64 y, .int .u64 x0, .int .u64 x1, .int .u64 x2, .int .u64 x3, .int .u64 x4, .int .u64 x5, .int .u64 x6, .int .u64 x7] 93)) (w7.heap.size + 1) 9 (some ⟨w7.heap.size, 0, none⟩) 1 (bxc [⟨y, [x0, x1, x2, x3, x4, x5, x6, x7]⟩])) := Rd.new w7 _ _ (size := 9) (m := 1) rfl (by simp [maxLen])
      go_wp2_with (
       at_builtin
       go_must (
        refine wpList_app _ rfl (.tmp 44) (.tmp 50) 51 rfl w.heap.size 93 ib _ 9 72 Try.underlying51 hib hz0 hz1 hz2 rfl (by omega) _ _ _ rfl HRa.out _ _ 1 _ _ rfl Ra.out (bxc_one (fun b hb => by simp at hb; subst hb; rfl)) ?_ ?_ ?_ ?_
        ·simp only [maxLen]; omega
        ·omega
        ·exact hz3
        intro v7 w7 hown7 hg7 _
        have HB := Lib.hid (below_own HBa.out HRa.out hg7 (Nat.le_refl _) hz3)
        have HK := Lib.hid (HKa.out.grown hg7 (HKa.out.ne_own HRa.out (by decide)))
        have HZ := Lib.hid (HZa.out.grown hg7 (HZa.out.ne_own HRa.out (by decide)))
        have HW := Lib.hid (HWa.out.grown hg7 (HWa.out.ne_own HRa.out (by decide)))
        rw [← bxc_app] at hown7
        obtain ⟨A7, c7, rfl, _, _⟩ := Rd.of_own_cap hown7
        have HO := Lib.hid hown7
        clear hown7 hg7))
      go_roundw
      case rel => exact ⟨k + 1, _, true, _, ⟨by omega, by go_num, rfl, by simp; omega⟩, by show _ = _; rw [List.length_append, HQ1.out]; rfl, HI2.out, HO.out, HK.out, HZ.out, HW.out, HB.out⟩
      case measure => simp [intOf]; omega
    ·have ehy : decide (h ≤ y) = false := decide_eq_false hhy
     rw [ehy] at hI
     have HI : Hid (P ++ ((if y ≠ h then [⟨y, [x0, x1, x2, x3, x4, x5, x6, x7]⟩] else []) ++ withGo h [u0, u1, u2, u3, u4, u5, u6, u7] false (l.drop (k + 1))) = withX h [u0, u1, u2, u3, u4, u5, u6, u7] l) := hI
     have HQ1 := HQ
     clear hI ehy
     go_upto_region 9 with fail
     obtain ⟨d0, d1, d2, d3, d4, d5, d6, d7, d8⟩ := (HX.out.below HB.out).cellsAt HLk.out
     have m16 : wr.cell? ⟨w.heap.size, 16, none⟩ = some (.slice (some ⟨b, o, none⟩) n c) := (HK.out.cell 16).trans HMb.out
     by_cases hy : y = h
     ·exact absurd hy (by omega)
     ·have e0 : (y == h) = false := beq_eq_false_iff_ne.2 hy
      have e02 : (y != h) = true := bne_iff_ne.2 hy
      have hI := HI.out
      rw [if_pos hy, ← List.append_assoc] at hI
      have HI2 := Lib.hid hI
      clear hI
      have HRa := Lib.hid (HO.out.alloc (.cells #[.int .u64 y, .int .u64 x0, .int .u64 x1, .int .u64 x2, .int .u64 x3, .int .u64 x4, .int .u64 x5, .int .u64 x6, .int .u64 x7] 93))
      have HBa := Lib.hid (HB.out.alloc HB.out.size (.cells #[.int .u64 y, .int .u64 x0, .int .u64 x1, .int .u64 x2, .int .u64 x3, .int .u64 x4, .int .u64 x5, .int .u64 x6, .int .u64 x7] 93))
      have HKa := Lib.hid (HK.out.alloc (.cells #[.int .u64 y, .int .u64 x0, .int .u64 x1, .int .u64 x2, .int .u64 x3, .int .u64 x4, .int .u64 x5, .int .u64 x6, .int .u64 x7] 93))
      have HZa := Lib.hid (HZ.out.alloc (.cells #[.int .u64 y, .int .u64 x0, .int .u64 x1, .int .u64 x2, .int .u64 x3, .int .u64 x4, .int .u64 x5, .int .u64 x6, .int .u64 x7] 93))
      have HWa := Lib.hid (HW.out.alloc (.cells #[.int .u64 y, .int .u64 x0, .int .u64 x1, .int .u64 x2, .int .u64 x3, .int .u64 x4, .int .u64 x5, .int .u64 x6, .int .u64 x7] 93))
      have hz3 := HBa.out.size
      have Ra : Hid (Rd (wr.alloc (.cells #[.int .u64 y, .int .u64 x0, .int .u64 x1, .int .u64 x2, .int .u64 x3, .int .u64 x4, .int .u64 x5, .int .u64 x6, .int .u64 x7] 93)) (wr.heap.size + 1) 9 (some ⟨wr.heap.size, 0, none⟩) 1 (bxc [⟨y, [x0, x1, x2, x3, x4, x5, x6, x7]⟩])) := Rd.new wr _ _ (size := 9) (m := 1) rfl (by simp [maxLen])
      go_wp2_with (
       at_builtin
       go_must (
        refine wpList_app _ rfl (.tmp 44) (.tmp 50) 51 rfl w.heap.size 93 ib _ 9 72 Try.underlying51 hib hz0 hz1 hz2 rfl (by omega) _ _ _ rfl HRa.out _ _ 1 _ _ rfl Ra.out (bxc_one (fun b hb => by simp at hb; subst hb; rfl)) ?_ ?_ ?_ ?_
        ·simp only [maxLen]; omega
        ·omega
        ·exact hz3
        intro v7 w7 hown7 hg7 _
        have HB := Lib.hid (below_own HBa.out HRa.out hg7 (Nat.le_refl _) hz3)
        have HK := Lib.hid (HKa.out.grown hg7 (HKa.out.ne_own HRa.out (by decide)))
        have HZ := Lib.hid (HZa.out.grown hg7 (HZa.out.ne_own HRa.out (by decide)))
        have HW := Lib.hid (HWa.out.grown hg7 (HWa.out.ne_own HRa.out (by decide)))
        rw [← bxc_app] at hown7
        obtain ⟨A7, c7, rfl, _, _⟩ := Rd.of_own_cap hown7
        have HO := Lib.hid hown7
        clear hown7 hg7))
      go_roundw
      case rel => exact ⟨k + 1, _, false, _, ⟨by omega, by go_num, rfl, by simp; omega⟩, by show _ = _; rw [List.length_append, HQ1.out]; rfl, HI2.out, HO.out, HK.out, HZ.out, HW.out, HB.out⟩
      case measure => simp [intOf]; omega
end Go.Proofs.Ytjggmimaolddkaa
