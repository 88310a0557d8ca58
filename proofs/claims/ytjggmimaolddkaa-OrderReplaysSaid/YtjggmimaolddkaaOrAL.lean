import Derived.Test.YtjggmimaolddkaaOrAK
import Derived.Maps.RangeWalk
import Derived.BigQuiet
import Derived.StillTailTactics
import Derived.Deep.QuietTactic
import Derived.Deep.RegionHeld3
import Derived.Laws.ResultCell
import Derived.Test.YtjggmimaolddkaaOrAF
import Derived.Maps.AppendAt
import Derived.RangeFuncFrom
import Derived.RangeFuncBox
import Derived.RangeFuncStops
import Derived.Sort.MapsRangeIn
import Derived.OwnWalkIn
import Derived.TacticsInMore
import Derived.RegionIn
import Derived.LoopNIn
import Derived.LoopIn
import Derived.Test.YtjggmimaolddkaaRows
import Derived.Sort.Walk0
import Derived.WalkKit
namespace Go.Proofs.Ytjggmimaolddkaa
open Go.RowKit Go.Maps
set_option linter.unusedVariables false
theorem results_row_tmp {P : Program} {fn : Func} {p u : Tmp} {ty : TypeId} (h : fn.results = #[.cell p ty, .tmp u]) (tmps : Array Value) (w : World) (g : Nat) (t : TypeId) (cs : Array Value) (fr : Nat × Nat) (d : TypeDesc)
 (hp : tmps.getD p undef = .pointer (some ⟨g, 0, none⟩)) (hg : w.heap[g]? = some (.cells cs t fr))
 (hu : P.underlying ty = some d) (hd : (match d with | .struct _ | .array _ _ => true | _ => false) = true) (hi : (P.info? ty).map (·.size) = some cs.size) :
 (results fn tmps).run P w = .ok (.tuple #[.agg cs, tmps.getD u undef]) w := by
 rw [results_cell_tmp h, hp]
 simp [asAddr, run_loadVar_row w g t ty cs fr d hg hu hd hi, Result.andThen]
def rootAt (s : MSt) (k : Int) : Int := if k < 0 ∨ 16 ≤ k then 0 else s.roots.getD k.toNat 0
set_option maxRecDepth 100000 in
set_option maxHeartbeats 4000000 in
theorem root_at (B n sb mb : Nat) (s : MSt) (k : Int) (w : World) (h : StIn w B n sb mb s) :
 Calls Try.prog 17 #[.pointer (some ⟨sb, 0, none⟩), .int .i64 k] w fun e w' => e = .returned (.int .u64 (rootAt s k)) ∧ w = w' := by
 by_cases h0 : k < 0
 ·have HE : Hid (rootAt s k = 0) := by show _ = _; unfold rootAt; rw [if_pos (.inl h0)]
  go_enter Try.func17, Try.ntmps17
  go_wp2
  go_ret
  exact ⟨by rw [HE.out]; rfl, rfl⟩
 by_cases h1 : 16 ≤ k
 ·have HE : Hid (rootAt s k = 0) := by show _ = _; unfold rootAt; rw [if_pos (.inr h1)]
  have hd : decide (k ≥ 16) = true := decide_eq_true h1
  go_enter Try.func17, Try.ntmps17
  go_wp2
  go_ret
  exact ⟨by rw [HE.out]; rfl, rfl⟩
 ·obtain ⟨j, rfl⟩ : ∃ j : Nat, k = (j : Int) := ⟨k.toNat, by omega⟩
  have hj : j < 16 := by omega
  have HE : Hid (rootAt s j = s.roots.getD j 0) := by show _ = _; unfold rootAt; rw [if_neg (by omega)]; rfl
  have kR := h.st.root (k := j) (by rw [h.roots]; exact hj)
  have hd : decide ((j : Int) ≥ 16) = false := decide_eq_false h1
  generalize s.roots.getD j 0 = R at kR HE
  clear h
  go_enter Try.func17, Try.ntmps17
  go_wp2
  go_ret
  exact ⟨by rw [HE.out]; rfl, rfl⟩
def blockOf (s : MSt) (h : Int) : List Int := (s.blocks h).getD zero8
set_option maxRecDepth 100000 in
set_option maxHeartbeats 4000000 in
theorem block_any (B n sb mb : Nat) (s : MSt) (k : Int) (w : World) (h : StIn w B n sb mb s) (hk : U64 k) :
 Calls Try.prog 29 #[.pointer (some ⟨sb, 0, none⟩), .int .u64 k] w fun e w' => e = .returned (.tuple #[blkV (blockOf s k), .bool (s.blocks k).isSome]) ∧ Below w.heap.size w w' := by
 have h8 : (blockOf s k).length = 8 := by
  unfold blockOf
  cases hb : s.blocks k with
  | none => rfl
  | some ws => exact h.map.words hk hb
 have hlk0 := fun W (hW : OwnB W Try.prog 31 mb n s.blocks) => hW.look (t := 96) (e := 91) Try.underlying31 Try.underlying96 (zero_blk _) hk
 have hlk := hlk0 _ (h.map.alloc (.cells #[.int .u64 0, .int .u64 0, .int .u64 0, .int .u64 0, .int .u64 0, .int .u64 0, .int .u64 0, .int .u64 0] 91))
 have kM : (w.alloc (.cells #[.int .u64 0, .int .u64 0, .int .u64 0, .int .u64 0, .int .u64 0, .int .u64 0, .int .u64 0, .int .u64 0] 91)).cell? ⟨sb, 16, none⟩ = some (.map (some mb)) := by
  have := Bk.alloc h.st (.cells #[.int .u64 0, .int .u64 0, .int .u64 0, .int .u64 0, .int .u64 0, .int .u64 0, .int .u64 0, .int .u64 0] 91)
  exact BkS.map this h.roots
 change Sem.run _ _ _ = .ok (Value.tuple #[blkV (blockOf s k), .bool (s.blocks k).isSome]) _ at hlk
 obtain ⟨x0, x1, x2, x3, x4, x5, x6, x7, hws⟩ := eight h8
 rw [hws] at hlk ⊢
 generalize (s.blocks k).isSome = there at hlk ⊢
 simp only [blkV, List.map_cons, List.map_nil] at hlk ⊢
 have hu := Try.underlying91
 have hsb := h.st.lt
 clear h hlk0 h8 hws
 go_enter Try.func29, Try.ntmps29
 go_wp2_with fail
 refine bodyPost_ret (results_row_tmp rfl _ _ w.heap.size 91 _ (0, 0) _ rfl ((Bk.new w _ _).alloc _) hu rfl (by kernel_rfl)) rfl ⟨rfl, ?_⟩
 exact ((Below.refl _ _).alloc (Nat.le_refl _) _).alloc (by simp) _
def SameSt (s o : MSt) : Prop := s.roots = o.roots ∧ ∀ h, U64 h → s.blocks h = o.blocks h
end Go.Proofs.Ytjggmimaolddkaa
namespace Go.Proofs.Ytjggmimaolddkaa
open Go.RowKit Go.Maps
set_option linter.unusedVariables false
def KeysOf (f : Int → Option (List Int)) (ss : List Int) : Prop := ss.Nodup ∧ ∀ x, x ∈ ss ↔ (U64 x ∧ (f x).isSome = true)
def Came (D : DataW Unit) (left : Lit → Bool) (ss : List Int) : Prop := ss.Nodup ∧ ∀ x, x ∈ ss ↔ (U64 x ∧ Maps.has D (.int .u64 x) = true ∧ left (.int .u64 x) = false)
theorem Came.start (D : DataW Unit) : Came D (Maps.has D) [] := ⟨List.nodup_nil, fun x => ⟨fun h => by simp at h, fun h => by rw [h.2.1] at h; simp at h⟩⟩
theorem Came.step {D : DataW Unit} {left : Lit → Bool} {ss : List Int} (h : Came D left ss) {k : Int} (hk : U64 k) (hh : Maps.has D (.int .u64 k) = true) (hl : left (.int .u64 k) = true) :
 Came D (fun z => left z && !z.sameKey (.int .u64 k)) (ss ++ [k]) := by
 have hself : (Lit.int .u64 k).sameKey (.int .u64 k) = true := WideAt.sameKey_self (by first | exact trivial | exact ⟨_, _, rfl⟩ | simp [WideAt.IsKeyLit])
 refine ⟨?_, fun x => ?_⟩
 ·rw [List.nodup_append]
  refine ⟨h.1, by simp, fun a ha b hb e => ?_⟩
  simp at hb
  subst hb; subst e
  have := (h.2 a).1 ha
  rw [hl] at this
  simp at this
 ·rw [List.mem_append, h.2 x, List.mem_singleton]
  constructor
  ·rintro (⟨h1, h2, h3⟩ | rfl)
   ·exact ⟨h1, h2, by show (left _ && _) = false; rw [h3]; rfl⟩
   ·exact ⟨hk, hh, by show (left _ && !(Lit.int .u64 x).sameKey _) = false; rw [hself]; simp⟩
  ·rintro ⟨h1, h2, h3⟩
   cases hlx : left (.int .u64 x)
   ·exact .inl ⟨h1, h2, rfl⟩
   ·have h3 : (left (.int .u64 x) && !(Lit.int .u64 x).sameKey (.int .u64 k)) = false := h3
    rw [hlx] at h3
    have hs : (Lit.int .u64 x).sameKey (.int .u64 k) = true := by simpa using h3
    have e := WideAt.sameKey_eq hs
    injection e with _ e
    exact .inr e
theorem Came.all {D : DataW Unit} {left : Lit → Bool} {ss : List Int} {f : Int → Option (List Int)} (h : Came D left ss) (v : Val D f) (hl : ∀ k, left k = false) : KeysOf f ss :=
 ⟨h.1, fun x => by
  rw [h.2 x]
  constructor
  ·rintro ⟨h1, h2, _⟩
   obtain ⟨ws, hf, _⟩ := v.got h1 h2
   exact ⟨h1, by rw [hf]; rfl⟩
  ·rintro ⟨h1, h2⟩
   obtain ⟨ws, hf⟩ := Option.isSome_iff_exists.1 h2
   exact ⟨h1, (v.had h1 hf).1, hl _⟩⟩
theorem u64_enc_inj {x y : Int} (h : Value.int .u64 x = Value.int .u64 y) : x = y := by injection h
set_option maxRecDepth 100000 in
set_option maxHeartbeats 2000000 in
theorem keys1_in (F : Fence) (n : Nat) (hF : F.fn 49) (hro : F.round = none) (hn : 1 ≤ n) (l Bm b nn : Nat) (D0 : DataW Unit) (f : Int → Option (List Int)) (hv : Val D0 f) (J Jx : List Int → World → Prop) (W : World)
 (hY : ∀ pre x W1, J pre W1 → pre.length < nn → YieldAt F (n - 1) Try.prog l #[.int .u64 x] W1 fun e W' =>
   (e = .returned (.bool true) ∧ J (pre ++ [x]) W' ∧ KeepsWalks W1 W') ∨ (e = .returned (.bool false) ∧ Jx (pre ++ [x]) W'))
 (hJ : AbidesFrom W.heap.size J) (hm : W.cell? ⟨Bm, 0, none⟩ = some (.map (some b))) (hown : W.ownsMap Try.prog 31 blkR b nn D0) (h0 : J [] W) (hsz : Maps.size D0 ≤ nn) :
 CallsIn F n Try.prog 49 #[.func (.yield l) #[] #[], .pointer (some ⟨Bm, 0, none⟩)] W fun e W' => (∃ v, e = .returned v) ∧
  ((∃ ss, KeysOf f ss ∧ J ss W') ∨ (∃ pre : List Int, True ∧ Jx pre W')) := by
 have hKu := Try.underlying31
 refine callsIn_of_wp Try.func49 rfl hF ?_ hro
 simp only [Try.ntmps49, List.size_toArray, List.length_cons, List.length_nil, Nat.reduceAdd, Nat.reduceSub, Array.replicate_succ, Array.replicate_zero, List.push_toArray, List.append_toArray, List.nil_append, List.cons_append]
 gi_wp2_with (first
  | (gi_at_range; refine wpListIn_range_own _ rfl _ 96 rfl 31 91 (int_keyed hKu) Try.underlying96 blkR b nn _ rfl hown ?_; intro w0 hrg0 hg0 hs0)
  | gi_in)
 go_frame
 gi_loopw [3] (fun _ wr => ∃ (left : Lit → Bool) (cnt : Nat) (ss : List Int), wr.ranges Try.prog 31 blkR b W.heap.size nn D0 left cnt ∧ ss.length + cnt ≤ Maps.size D0 ∧ Came D0 left ss ∧ J ss wr)
  (fun _ wr => wr.rangeLeft b W.heap.size)
 case atStart => exact ⟨_, _, [], hrg0, by simp, Came.start D0, hJ [] W w0 none h0 hg0 (fun r e => by cases e)⟩
 case round =>
  obtain ⟨left, cnt, ss, hrg, hcs, hC, hJs⟩ := hrel
  gi_wp2_with (first
   | (gi_at_next; refine wpListIn_next_ranges _ rfl _ rfl 31 (int_keyed hKu) blkR (Value.int .u64) id (fun key kl hk => by obtain ⟨x, hx, _⟩ := Maps.keyOf_int_inv hKu hk; exact ⟨x, hx⟩) (fun v _ _ => ⟨v, rfl⟩) b W.heap.size nn _ _ _ rfl hrg ?_ ?_)
   | gi_in)
  ·intro hc0 hl0
   gi_wp2
   go_end0
   exact ⟨⟨_, rfl⟩, .inl ⟨ss, hC.all hv hl0, hJs⟩⟩
  ·intro x c kl yd yp w2 cnt2 hkey hlk hvc hat hrg2 hlt hg2 hs2 hen
   obtain ⟨x', ex, rfl, hxw⟩ := Maps.keyOf_int_inv hKu hkey
   obtain rfl := u64_enc_inj ex
   have hJ2 : J ss w2 := hJ ss wr w2 (some W.heap.size) hJs hg2 (fun r e => by cases e; exact ⟨Nat.le_refl _, hrg.iter_walk⟩)
   obtain ⟨fn, tmps, assign, body, hy, hR⟩ := hY ss x w2 hJ2 (by omega)
   have hhas : Maps.has D0 (.int .u64 x) = true := Maps.has_true_of_atKey hat
   clear hs2
   gi_wp2
   refine hR.mono ?_
   have hC2 := hC.step (u64_of_wf hxw) hhas hlk
   rintro e W3 (⟨rfl, hJ3, hk3⟩ | ⟨rfl, hJx3⟩)
   ·gi_wp2
    have hrg3 := hrg2.of_walks hk3
    go_roundw
    case rel => exact ⟨_, cnt2, ss ++ [x], hrg3, by simp; omega, hC2, hJ3⟩
    case measure => rw [hrg3.left_eq, hrg.left_eq]; exact hlt
   ·gi_wp2
    refine bodyPost_ret (results_none rfl _ _ _) rfl ?_
    exact ⟨⟨_, rfl⟩, .inr ⟨_, trivial, hJx3⟩⟩
theorem size_le {w : World} {P : Program} {K : TypeId} {b n : Nat} {D : DataW Unit} (h : w.ownsMap P K blkR b n D) : Maps.size D ≤ n := by
 obtain ⟨es, clock, _, _, hs, rfl⟩ := h
 show ((es.toList.map _).foldr DataW.insert []).length ≤ n
 rw [length_sorted]; simpa using hs
theorem keys_stops (F : Fence) (n : Nat) (hF : F.fn 49) (hro : F.round = none) (hn : 1 ≤ n) (Bm b nn : Nat) (f : Int → Option (List Int)) (w : World) (hBm : Bm < w.heap.size)
 (hm : w.cell? ⟨Bm, 0, none⟩ = some (.map (some b))) (hown : OwnB w Try.prog 31 b nn f) :
 SeqStops F n Try.prog 49 #[.pointer (some ⟨Bm, 0, none⟩)] (Value.int .u64) (KeysOf f) (fun _ => True) nn w := fun l J Jx W hW hJ _ hY h0 => by
 obtain ⟨D, ho, hv⟩ := hown
 have hown' : W.ownsMap Try.prog 31 blkR b nn D := ho.kept (row := none) ⟨hW.os, hW.tape, hW.output, hW.size, fun k hk _ => hW.block k hk⟩ (by simp)
 exact keys1_in F n hF hro hn l Bm b nn D f hv J Jx W hY hJ ((hW.cell (p := ⟨Bm, 0, none⟩) hBm).trans hm) hown' h0 (size_le ho)
attribute [local go_sem] Oper.semAt_some
theorem keys_call (F : Fence) (n : Nat) (hF : F.fn 37) (hro : F.round = none) (b : Nat) (w : World) :
 CallsIn F n Try.prog 37 #[.map (some b)] w fun e w' => e = .returned (.func (.func 49) #[] #[.pointer (some ⟨w.heap.size, 0, none⟩)]) ∧ w' = w.alloc (.cells #[.map (some b)] 96) := by
 refine callsIn_of_wp Try.func37 rfl hF ?_ hro
 simp only [Try.ntmps37, List.size_toArray, List.length_cons, List.length_nil, Nat.reduceAdd, Nat.reduceSub, Array.replicate_succ, Array.replicate_zero, List.push_toArray, List.append_toArray, List.nil_append, List.cons_append]
 gi_wp2
 go_ret
 exact ⟨rfl, rfl⟩
def ColPost (f : Int → Option (List Int)) (w : World) (e : Ending) (w' : World) : Prop :=
 ∃ (v : Value) (ss : List Int), e = .returned v ∧ KeysOf f ss ∧ w'.ownsRow w.heap.size 31 1 v ss.length (u64s ss) ∧ Below w.heap.size w w'
set_option maxRecDepth 100000 in
set_option maxHeartbeats 4000000 in
theorem append_in (F : Fence) (nn : Nat) (h11 : F.fn 61) (hF : F.fn 49) (hro : F.round = none) (hn : 2 ≤ nn) (Bm b m : Nat) (f : Int → Option (List Int)) (w : World) (hBm : Bm < w.heap.size)
 (hm : w.cell? ⟨Bm, 0, none⟩ = some (.map (some b))) (hown : OwnB w Try.prog 31 b m f) (hb : m ≤ 1000000000000) :
 CallsIn F nn Try.prog 61 #[.slice none 0 0, .func (.func 49) #[] #[.pointer (some ⟨Bm, 0, none⟩)]] w (ColPost f w) := by
 have h1 : 1 ≤ nn := by omega
 obtain ⟨i0, hi, hz0, hz1, hz2⟩ := info_parts (P := Try.prog) (e := 31) (z := .int .u64 0) (size := 1) (bytes := 8) (by kernel_rfl)
 refine callsIn_of_wp_marks Try.func61 rfl h11 ?_ hro
 simp only [Try.ntmps61, List.size_toArray, List.length_cons, List.length_nil, Nat.reduceAdd, Nat.reduceSub, Array.replicate_succ, Array.replicate_zero, List.push_toArray, List.append_toArray, List.nil_append, List.cons_append]
 gi_wp2
 obtain ⟨W0, hW0⟩ : ∃ W0, w.alloc (.cells #[.slice none 0 0] 34) = W0 := ⟨_, rfl⟩
 have q0 : Boxed W0 w.heap.size 34 (.slice none 0 0) := by rw [← hW0]; exact Boxed.new w _ _
 have hB0 : Below w.heap.size w W0 := by rw [← hW0]; exact (Below.refl _ _).alloc (Nat.le_refl _) _
 have hs0 : W0.heap.size = w.heap.size + 1 := by rw [← hW0]; simp
 have ho0 : OwnB W0 Try.prog 31 b m f := hown.below hB0
 have hm0 : W0.cell? ⟨Bm, 0, none⟩ = some (.map (some b)) := (hB0.cell (p := ⟨Bm, 0, none⟩) hBm).trans hm
 rw [hW0]
 clear hW0
 refine wpIn_rangeFunc_ownF hro h1 (gf := 49) (lb := #[.pointer (some ⟨Bm, 0, none⟩)]) rfl hF (enters_of Try.func49 (by kernel_rfl) rfl)
  (keys_stops F (nn - 1) hF hro (by omega) Bm b m f W0 (by omega) hm0 ho0) walksK_t walksK_b (Below.refl _ _) (fun _ => rfl)
  (fun pre W => (∃ v, Boxed W w.heap.size 34 v ∧ W.ownsRow w.heap.size 31 1 v pre.length (u64s pre) ∧ True) ∧ Below w.heap.size w W)
  (fun c pre W => False ∧ Below w.heap.size w W)
  (OwnFrom.and (Own.from (holdsRow_own w.heap.size w.heap.size 34 31 1 (fun pre : List Int => pre.length) (fun pre : List Int => u64s pre) (fun _ _ => True)) _) (ownFrom_below (Nat.le_refl _) (by omega)))
  (fun c => fun s A B row hs hg hr => hs.1.elim)
  ⟨⟨_, q0, World.ownsRow_nil _ _ _ _, trivial⟩, hB0⟩
  (fun x => { tmps := #[.slice none 0 0, .func (.func 49) #[] #[.pointer (some ⟨Bm, 0, none⟩)], .pointer (some ⟨w.heap.size, 0, none⟩), undef, .slice none 0 0, .int .u64 x, .func (.func 49) #[] #[.pointer (some ⟨Bm, 0, none⟩)], .int .u64 x, undef, undef, undef, undef, undef], defers := [] }) ?assign ?body ?done ?stop
 case assign =>
  intro lp x W K hK
  gi_wp2
  exact hK
 case body =>
  rintro lp pre x W ⟨⟨v, hv, hrow, _⟩, hB⟩ hlen
  have hc := hv.cell
  have hsz := hB.size
  have hb3 := hv.lt
  have HV := Lib.hid hv
  have HRow := Lib.hid hrow
  have HB := Lib.hid hB
  clear hv hrow hB
  gi_wp2_with (gi_at_builtin; refine wpListIn_append_own _ rfl (.tmp 8) (.tmp 10) 34 rfl w.heap.size 31 i0 (.int .u64 0) 1 8 Try.underlying34 hi hz0 hz1 hz2 rfl (by decide) _ pre.length (u64s pre) rfl ?c1 ⟨W.heap.size, 0, none⟩ 1 1 [.int .u64 x] ?c2 ?c3 ?c4 ?c5 ?c6 ?c7 ?c8 ?_)
  case c1 => exact HRow.out.alloc _
  case c2 => rfl
  case c3 => rfl
  case c4 => intro j u hu; rcases j with _ | j <;> simp at hu; subst hu; simp [Addr.add]
  case c5 => intro u hu; simp at hu; subst hu; rfl
  case c6 => simp only [maxLen]; omega
  case c7 => omega
  case c8 => simp; omega
  intro v' w1 hown' hgrow _
  obtain ⟨g', cap', rfl⟩ := ownsRow_succ hown'
  obtain ⟨hv1, hv2, hr2, hk2, hb2⟩ := HV.out.appended (by decide) HRow.out HB.out.size (by omega) hown' hgrow
  have hc1 := hv1.cell
  have hf1 := hv1.frozen
  have hz1 := hv1.lt
  have HV2 := Lib.hid hv2
  have HR2 := Lib.hid hr2
  have HK2 := Lib.hid hk2
  have HB2 := Lib.hid hb2
  clear hv1 hv2 hr2 hk2 hb2 hown' hgrow
  gi_wp2
  refine ⟨HK2.out, HK2.out.walks, ⟨⟨_, HV2.out, ?_, trivial⟩, HB.out.trans HB2.out⟩⟩
  rw [List.length_append, u64s, List.map_append]
  exact HR2.out
 case done =>
  rintro D ys W hD hS ⟨⟨v, hv, hrow, _⟩, hB⟩ hK
  have hc := hv.cell
  obtain ⟨A', c', rfl, _⟩ := Rd.of_own hrow
  have HRow := Lib.hid hrow
  have HKK := Lib.hid hK
  have HB := Lib.hid hB
  have HS := Lib.hid hS
  clear hK hB hS hrow hv
  gi_wp2
  refine ⟨by simp, .inl ⟨_, _, rfl, run_takeDeferred HKK.out, ?_⟩⟩
  refine ⟨_, results_tmp rfl _ _ _, .slice A' ys.length c', ys, rfl, HS.out, ownsRow_putObj HRow.out _ HKK.out rfl, HB.out.trans (belowK_b (w := w) (Nat.le_refl _) W D _ _ (by omega) HKK.out rfl rfl)⟩
 case stop =>
  rintro D c pre W hD _ ⟨hF0, _⟩ _
  exact hF0.elim
set_option maxRecDepth 100000 in
theorem collect_in (F : Fence) (nn : Nat) (h8 : F.fn 47) (h11 : F.fn 61) (hF : F.fn 49) (hro : F.round = none) (hn : 3 ≤ nn) (Bm b m : Nat) (f : Int → Option (List Int)) (w : World) (hBm : Bm < w.heap.size)
 (hm : w.cell? ⟨Bm, 0, none⟩ = some (.map (some b))) (hown : OwnB w Try.prog 31 b m f) (hb : m ≤ 1000000000000) :
 CallsIn F nn Try.prog 47 #[.func (.func 49) #[] #[.pointer (some ⟨Bm, 0, none⟩)]] w (ColPost f w) := by
 have h1 : 1 ≤ nn := by omega
 refine callsIn_of_wp Try.func47 rfl h8 ?_ hro
 simp only [Try.ntmps47, List.size_toArray, List.length_cons, List.length_nil, Nat.reduceAdd, Nat.reduceSub, Array.replicate_succ, Array.replicate_zero, List.push_toArray, List.append_toArray, List.nil_append, List.cons_append]
 gi_wp2_with (gi_at_call 61; refine (append_in F (nn - 1) h11 hF hro (by omega) Bm b m f _ hBm hm hown hb).mono ?_; rintro e w' ⟨v, ss, rfl, hS, hrow, hbl⟩)
 go_ret
 exact ⟨v, ss, rfl, hS, hrow, hbl⟩
theorem keys_any (b : Nat) (w : World) : Calls Try.prog 37 #[.map (some b)] w fun e w' => e = .returned (.func (.func 49) #[] #[.pointer (some ⟨w.heap.size, 0, none⟩)]) ∧ w' = w.alloc (.cells #[.map (some b)] 96) :=
 (callsIn_wide (n := 9)).1 (keys_call Fence.wide 9 trivial rfl b w)
theorem collect_any (Bm b m : Nat) (f : Int → Option (List Int)) (w : World) (hBm : Bm < w.heap.size)
 (hm : w.cell? ⟨Bm, 0, none⟩ = some (.map (some b))) (hown : OwnB w Try.prog 31 b m f) (hb : m ≤ 1000000000000) :
 Calls Try.prog 47 #[.func (.func 49) #[] #[.pointer (some ⟨Bm, 0, none⟩)]] w (ColPost f w) :=
 (callsIn_wide (n := 9)).1 (collect_in Fence.wide 9 trivial trivial trivial rfl (by omega) Bm b m f w hBm hm hown hb)
end Go.Proofs.Ytjggmimaolddkaa
namespace Go.Proofs.Ytjggmimaolddkaa
open Go.RowKit Go.Maps
set_option linter.unusedVariables false
theorem insert_one (A : Option Addr) (n c : Nat) (w : World) (hn : n ≤ 1) :
 Calls Try.prog 77 #[.slice A n c, .int .i64 0, .int .i64 n] w fun e w' => (∃ v, e = .returned v) ∧ w' = w := by
 have hlt : ¬ ((1 : Int) < n) := by omega
 go_enter Try.func77, Try.ntmps77
 go_wp2
 refine wp_loop_rounds 1 ?_
 rw [rounds_succ]
 go_wp2
 go_end0
 exact ⟨⟨_, rfl⟩, rfl⟩
theorem pdq_one (A : Option Addr) (n c : Nat) (lim : Int) (w : World) (hn : n ≤ 1) :
 Calls Try.prog 62 #[.slice A n c, .int .i64 0, .int .i64 n, .int .i64 lim] w fun e w' => (∃ v, e = .returned v) ∧ w' = w := by
 have h12 : (n : Int) ≤ 12 := by omega
 have hs : IntKind.i64.wrap (n : Int) = n := IntWalk.i64_in _ (by omega)
 go_enter Try.func62, Try.ntmps62
 go_wp2
 refine wp_loop_rounds 1 ?_
 rw [rounds_succ]
 go_wp2_with fail
 refine (insert_one A n c _ hn).mono ?_
 rintro e w' ⟨⟨v, rfl⟩, rfl⟩
 go_wp2
 refine bodyPost_ret (results_none rfl _ _ _) rfl ⟨⟨_, rfl⟩, rfl⟩
theorem sort_one (A : Option Addr) (n c : Nat) (w : World) (hn : n ≤ 1) :
 Calls Try.prog 48 #[.slice A n c] w fun e w' => (∃ v, e = .returned v) ∧ w' = w := by
 have h64 : IntKind.u64.wrap (n : Int) = n := by rw [IntKind.wrap_u64]; omega
 go_enter Try.func48, Try.ntmps48
 go_wp2_with fail
 refine (Try.bits_Len (n : Int) _ (by omega) (by omega)).mono ?_
 rintro e w' ⟨rfl, rfl⟩
 go_wp2_with fail
 refine (pdq_one A n c _ _ hn).mono ?_
 rintro e w' ⟨⟨v, rfl⟩, rfl⟩
 go_wp2
 go_end0
 exact ⟨⟨_, rfl⟩, rfl⟩
def HandlesPost (f : Int → Option (List Int)) (w : World) (e : Ending) (w' : World) : Prop :=
 ∃ (v : Value) (ss : List Int), e = .returned v ∧ KeysOf f ss ∧ ss.Pairwise (· < ·) ∧ w'.ownsRow w.heap.size 31 1 v ss.length (u64s ss) ∧ Below w.heap.size w w'
end Go.Proofs.Ytjggmimaolddkaa
namespace Go.Proofs.Ytjggmimaolddkaa
open Go.RowKit Go.Sort
set_option linter.unusedVariables false
set_option maxHeartbeats 1000000 in
theorem srt_cmp_isNaN_u64 (x : Int) (w : World) : Calls Try.prog 98 #[.int .u64 x] w fun e w' => e = .returned (.bool false) ∧ w' = w := by
 go_enter Try.func98, Try.ntmps98
 go_wp2
 go_ret
 exact ⟨by simp, rfl⟩
set_option maxHeartbeats 1000000 in
theorem srt_cmp_Less_u64 (x y : Int) (w : World) : Calls Try.prog 83 #[.int .u64 x, .int .u64 y] w fun e w' => e = .returned (.bool (Sort.ltInt x y)) ∧ w' = w := by
 go_enter Try.func83, Try.ntmps83
 go_wp2_with (go_at_call 98; refine (srt_cmp_isNaN_u64 _ _).mono ?_; rintro e w' ⟨rfl, rfl⟩)
 go_ret
 exact ⟨rfl, rfl⟩
end Go.Proofs.Ytjggmimaolddkaa
