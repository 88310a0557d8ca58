/-
  Chapter 6: contract of the law's same, where a state is as the document's. Printed by gen/modu.py.
-/
import Derived.Test.YtddaeaimimdonaaModS
import Derived.BigQuiet
import Derived.Deep.RegionLaw
namespace Go.Proofs.Ytddaeaimimdonaa
open Go.RowKit Go.Maps
set_option linter.unusedVariables false

structure PBox where
  h : Int
  words : List Int
def PBox.cells (b : PBox) : List Value := .int .u64 b.h :: u64s b.words
/-- A slice of boxes that is read. -/
structure RdX (w : World) (B : Nat) (A : Option Addr) (n : Nat) (l : List PBox) : Prop where
  rd : Rd w B 9 A n (l.flatMap PBox.cells)
  len : l.length = n
  ok : ∀ b ∈ l, U64 b.h ∧ b.words.length = 8
theorem PBox.cells_len {b : PBox} (h : b.words.length = 8) : b.cells.length = 9 := by simp [PBox.cells, h]
theorem RdX.below {w w' : World} {B n : Nat} {A : Option Addr} {l : List PBox} (h : RdX w B A n l) (hb : Below B w w') : RdX w' B A n l := ⟨h.rd.below hb, h.len, h.ok⟩
theorem RdX.more {w : World} {B B' n : Nat} {A : Option Addr} {l : List PBox} (h : RdX w B A n l) (hB : B ≤ B') : RdX w B' A n l := ⟨h.rd.more hB, h.len, h.ok⟩
theorem flat_nine {l : List PBox} (hl : ∀ b ∈ l, b.words.length = 8) : ∀ {k : Nat} {b : PBox}, l[k]? = some b → ∀ i, i < 9 → (l.flatMap PBox.cells)[k * 9 + i]? = b.cells[i]? := by
  induction l with
  | nil => intro k b h; simp at h
  | cons y l ih =>
    intro k b hk i hi
    have hy := PBox.cells_len (hl y (by simp))
    rw [List.flatMap_cons]
    rcases k with _ | k
    · simp at hk
      subst hk
      rw [Nat.zero_mul, Nat.zero_add, List.getElem?_append_left (by omega)]
    · rw [List.getElem?_append_right (by omega), show (k + 1) * 9 + i - y.cells.length = k * 9 + i by omega]
      exact ih (fun b hb => hl b (by simp [hb])) (by simpa using hk) i hi
theorem RdX.at_ {w : World} {B n : Nat} {A : Option Addr} {l : List PBox} (h : RdX w B A n l) {k : Nat} (hk : k < n) :
    ∃ b o x x0 x1 x2 x3 x4 x5 x6 x7, A = some ⟨b, o, none⟩ ∧ b < B ∧ l[k]? = some ⟨x, [x0, x1, x2, x3, x4, x5, x6, x7]⟩ ∧ w.cell? ⟨b, o + k * 9, none⟩ = some (.int .u64 x) ∧
      w.cell? ⟨b, o + k * 9 + 1, none⟩ = some (.int .u64 x0) ∧ w.cell? ⟨b, o + k * 9 + 2, none⟩ = some (.int .u64 x1) ∧ w.cell? ⟨b, o + k * 9 + 3, none⟩ = some (.int .u64 x2) ∧ w.cell? ⟨b, o + k * 9 + 4, none⟩ = some (.int .u64 x3) ∧ w.cell? ⟨b, o + k * 9 + 5, none⟩ = some (.int .u64 x4) ∧ w.cell? ⟨b, o + k * 9 + 6, none⟩ = some (.int .u64 x5) ∧ w.cell? ⟨b, o + k * 9 + 7, none⟩ = some (.int .u64 x6) ∧ w.cell? ⟨b, o + k * 9 + 8, none⟩ = some (.int .u64 x7) := by
  obtain ⟨b, o, e, hb, hc⟩ := h.rd.at_ (by omega)
  have hkl : k < l.length := by rw [h.len]; exact hk
  have hl := List.getElem?_eq_getElem hkl
  obtain ⟨P, hP⟩ : ∃ P, l[k] = P := ⟨_, rfl⟩
  rw [hP] at hl
  obtain ⟨x, ws⟩ := P
  have h8 := (h.ok _ (List.mem_of_getElem? hl)).2
  obtain ⟨x0, x1, x2, x3, x4, x5, x6, x7, rfl⟩ := eight h8
  have hcell := flat_nine (fun b hb => (h.ok b hb).2) hl
  refine ⟨b, o, x, x0, x1, x2, x3, x4, x5, x6, x7, e, hb, hl, ?_, ?_, ?_, ?_, ?_, ?_, ?_, ?_, ?_⟩
  · exact hc (k * 9) _ (by rw [← Nat.add_zero (k * 9), hcell 0 (by omega)]; rfl)
  all_goals
    rw [Nat.add_assoc]
    refine hc _ _ ?_
    rw [hcell _ (by omega)]
    rfl
/-- Two rising lists of the same numbers are the same. -/
theorem rising_eq : ∀ {a b : List Int}, a.Pairwise (· < ·) → b.Pairwise (· < ·) → (∀ x, x ∈ a ↔ x ∈ b) → a = b
  | [], [], _, _, _ => rfl
  | [], y :: b, _, _, h => by have := (h y).2 (by simp); simp at this
  | x :: a, [], _, _, h => by have := (h x).1 (by simp); simp at this
  | x :: a, y :: b, ha, hb, h => by
    rw [List.pairwise_cons] at ha hb
    have e : x = y := by
      have h1 := (h x).1 (by simp)
      have h2 := (h y).2 (by simp)
      rcases List.mem_cons.1 h1 with e | h1
      · exact e
      · rcases List.mem_cons.1 h2 with e | h2
        · exact e.symm
        · have := hb.1 x h1
          have := ha.1 y h2
          omega
    subst e
    rw [rising_eq ha.2 hb.2 fun z => ?_]
    constructor
    · intro hz
      rcases List.mem_cons.1 ((h z).1 (List.mem_cons_of_mem _ hz)) with e | h1
      · have := ha.1 z hz; omega
      · exact h1
    · intro hz
      rcases List.mem_cons.1 ((h z).2 (List.mem_cons_of_mem _ hz)) with e | h1
      · have := hb.1 z hz; omega
      · exact h1
/-- Boxes, rising, are just a state's blocks. -/
structure Boxed6 (s : MSt) (xs : List PBox) : Prop where
  rise : (xs.map PBox.h).Pairwise (· < ·)
  all : ∀ x, x ∈ xs.map PBox.h ↔ (U64 x ∧ (s.blocks x).isSome = true)
  word : ∀ b ∈ xs, s.blocks b.h = some b.words
set_option maxRecDepth 100000 in
set_option maxHeartbeats 16000000 in
theorem lsame_any (B n sb mb : Nat) (s : MSt) (A : Option Addr) (bn bc : Nat) (xs : List PBox) (w : World) (h : StIn w B n sb mb s) (hn : n ≤ 1000000000) (hx : RdX w w.heap.size A bn xs) (hb : Boxed6 s xs) (hbn : bn ≤ 1000000) :
    Calls Try.prog 26 #[.pointer (some ⟨sb, 0, none⟩), .agg (u64s s.roots ++ [Value.slice A bn bc]).toArray] w fun e w' => e = .returned (.bool true) ∧ w.grownBy w' none := by
  obtain ⟨z0, z1, z2, z3, z4, z5, z6, z7, z8, z9, z10, z11, z12, z13, z14, z15, hz⟩ := sixteen h.roots
  have HS := Lib.hid h
  have HX := Lib.hid hx
  have HXl := Lib.hid hx.len
  have HB := Lib.hid hb
  have HZ := Lib.hid hz
  have hlt := h.st.lt
  rw [hz]
  simp only [u64s, List.map_cons, List.map_nil, List.cons_append, List.nil_append]
  clear h hx hb hz
  go_enter Try.func26, Try.ntmps26
  go_upto_region 1 with fail
  obtain ⟨W1, hW1⟩ : ∃ W1, w.alloc (.cells #[.int .u64 z0, .int .u64 z1, .int .u64 z2, .int .u64 z3, .int .u64 z4, .int .u64 z5, .int .u64 z6, .int .u64 z7, .int .u64 z8, .int .u64 z9, .int .u64 z10, .int .u64 z11, .int .u64 z12, .int .u64 z13, .int .u64 z14, .int .u64 z15, .slice A bn bc] 56) = W1 := ⟨_, rfl⟩
  have hx1 : Bk W1 w.heap.size 56 (u64s s.roots ++ [Value.slice A bn bc]).toArray := by rw [← hW1, HZ.out]; exact Bk.new _ _ _
  have hg1 : w.grownBy W1 none := by rw [← hW1]; exact World.grownBy_alloc _ _ _
  rw [hW1]
  have HX1 := Lib.hid hx1
  have HG1 := Lib.hid hg1
  have HBw := Lib.hid (show Below w.heap.size w W1 by rw [← hW1]; exact (Below.refl _ _).alloc (Nat.le_refl _) _)
  have HS1 := Lib.hid (HS.out.more hg1)
  obtain ⟨gx, hgx⟩ : ∃ gx, w.heap.size = gx := ⟨_, rfl⟩
  rw [hgx] at HX1 HX HBw hlt ⊢
  have HLt1 : Hid (gx < W1.heap.size) := HX1.out.lt
  have HGx := Lib.hid hgx
  clear hW1 hx1 hg1 hgx
  go_wp2
  go_loopw [11, 5] (fun i _a wr => ∃ q : Nat, (q ≤ 16 ∧ i = .int .i64 q) ∧ Hid (Below W1.heap.size W1 wr)) (fun i _ _ => 16 - (intOf i).toNat)
  case atStart => exact ⟨0, ⟨by omega, rfl⟩, Below.refl _ _⟩
  case round =>
    obtain ⟨q, ⟨hq, rfl⟩, HBq⟩ := hrel
    have HSq := Lib.hid (HS1.out.more (bk_grown_below HBq.out))
    have HXq := Lib.hid (HX1.out.below HBq.out HX1.out.lt)
    by_cases hlq : q < 16
    · have hlqi : (q : Int) < 16 := by omega
      obtain ⟨v, hv⟩ : ∃ v, s.roots.getD q 0 = v := ⟨_, rfl⟩
      have hvc : wr.cell? ⟨gx, q, none⟩ = some (.int .u64 v) := by
        rw [HXq.out.cell, List.getElem?_toArray, List.getElem?_append_left (by simp [u64s, HSq.out.roots]; exact hlq), u64s, List.getElem?_map, ← hv, List.getD_eq_getElem?_getD, List.getElem?_eq_getElem (by rw [HSq.out.roots]; exact hlq)]
        rfl
      have hrt : rootAt s (q : Int) = v := by
        unfold rootAt
        rw [if_neg (by omega), ← hv]; simp
      have HRt := Lib.hid hrt
      have hvv : (v != v) = false := by simp
      clear hv hrt
      go_upto_region 4 with fail
      go_region_law (
        go_simp
        go_at_call 21
        refine (root_at _ _ _ _ s (q : Int) _ (HSq.out.more (grown_drew _ _))).mono ?_
        rintro e wn ⟨rfl, rfl⟩
        rw [HRt.out])
      all_goals
        go_wp2
        go_roundw
        case rel => exact ⟨q + 1, ⟨by omega, by go_num⟩, HBq.out.drew⟩
        case measure => simp [intOf]; omega
    · obtain rfl : q = 16 := by omega
      go_wp2_with fail
      refine (handles_many _ _ _ _ s _ HSq.out (by omega) (fun ss hk => ?_)).mono ?_
      · have e : ss.length = bn := by
          have hp : ss.Perm (xs.map PBox.h) := by
            have hnd : (xs.map PBox.h).Nodup := HB.out.rise.imp fun h => Int.ne_of_lt h
            exact (List.perm_ext_iff_of_nodup hk.1 hnd).2 fun x => (hk.2 x).trans (HB.out.all x).symm
          rw [hp.length_eq, List.length_map, HXl.out]
        omega
      rintro e wf ⟨hv, ss, rfl, hks, hsort, hrow, hbf⟩
      obtain rfl : ss = xs.map PBox.h := rising_eq hsort HB.out.rise fun x => (hks.2 x).trans (HB.out.all x).symm
      obtain ⟨hA, hc, rfl, hrr⟩ := Rd.of_own hrow
      have HRr := Lib.hid hrr
      have HLs : Hid ((xs.map PBox.h).length = bn) := by show _ = _; rw [List.length_map, HXl.out]
      have HS2 := Lib.hid (HSq.out.more (bk_grown_below hbf))
      have HX2 := Lib.hid (HXq.out.below hbf HXq.out.lt)
      have HB2 : Hid (Below W1.heap.size W1 wf) := HBq.out.trans (hbf.mono HBq.out.size)
      rw [HLs.out] at HRr ⊢
      clear hks hsort hrow hrr hbf
      obtain ⟨V, hV⟩ : ∃ V, wf = V := ⟨_, rfl⟩
      rw [hV] at HRr HS2 HX2 HB2 ⊢
      clear hV
      have x16 : V.cell? ⟨gx, 16, none⟩ = some (.slice A bn bc) := by rw [HX2.out.cell, HZ.out]; rfl
      have hbb : ((bn : Int) != (bn : Int)) = false := by simp
      go_upto_region 8 with fail
      go_wp2_with fail
      refine (root_at _ _ _ _ s (-1) _ HS2.out).mono ?_
      rintro e wg ⟨rfl, rfl⟩
      rw [show rootAt s (-1) = 0 from by unfold rootAt; rw [if_pos (by omega)]]
      go_wp2_with fail
      refine (root_at _ _ _ _ s 16 _ HS2.out).mono ?_
      rintro e wg ⟨rfl, rfl⟩
      rw [show rootAt s 16 = 0 from by unfold rootAt; rw [if_pos (by omega)]]
      have HBV := Lib.hid (HBw.out.trans (HB2.out.mono (Nat.le_of_lt HLt1.out)))
      go_wp2
      go_loopw [44, 7, 8, 9, 10] (fun i _a _b _c _d wr => ∃ p : Nat, (p ≤ bn ∧ i = .int .i64 p) ∧ Hid (Below V.heap.size V wr)) (fun i _ _ _ _ _ => bn - (intOf i).toNat)
      case atStart => exact ⟨0, ⟨by omega, rfl⟩, Below.refl _ _⟩
      case round =>
        obtain ⟨p, ⟨hp, rfl⟩, HBp⟩ := hrel
        have HVz : Hid (V.heap.size ≤ wr.heap.size) := HBp.out.size
        have HBVp := Lib.hid (HBV.out.trans (HBp.out.mono (Nat.le_trans (Nat.le_of_lt HLt1.out) HB2.out.size)))
        by_cases hlp : p < bn
        · have hlpi : (p : Int) < (bn : Int) := by omega
          obtain ⟨b, o, x, x0, x1, x2, x3, x4, x5, x6, x7, rfl, hbB, hxp, c0, d0, d1, d2, d3, d4, d5, d6, d7⟩ := (HX.out.below HBVp.out).at_ hlp
          have hux := (HX.out.ok _ (List.mem_of_getElem? hxp)).1
          have hsw := HB.out.word _ (List.mem_of_getElem? hxp)
          simp only at hux hsw
          obtain ⟨lb, lo, rfl, hlb, hlc⟩ := (HRr.out.below HBp.out).at_ (by omega)
          have l0 : wr.cell? ⟨lb, lo + p, none⟩ = some (.int .u64 x) := hlc p _ (by rw [u64s, List.getElem?_map, List.getElem?_map, hxp]; rfl)
          have HUx := Lib.hid hux
          have HSw := Lib.hid hsw
          clear hxp hux hsw hlc
          go_upto_region 13 with fail
          obtain ⟨W2, hW2⟩ : ∃ W2, wr.alloc (.cells #[.int .u64 x, .int .u64 x0, .int .u64 x1, .int .u64 x2, .int .u64 x3, .int .u64 x4, .int .u64 x5, .int .u64 x6, .int .u64 x7] 58) = W2 := ⟨_, rfl⟩
          have hk2 : Bk W2 wr.heap.size 58 #[.int .u64 x, .int .u64 x0, .int .u64 x1, .int .u64 x2, .int .u64 x3, .int .u64 x4, .int .u64 x5, .int .u64 x6, .int .u64 x7] := by rw [← hW2]; exact Bk.new _ _ _
          have hb2 : Below wr.heap.size wr W2 := by rw [← hW2]; exact (Below.refl _ _).alloc (Nat.le_refl _) _
          rw [hW2]
          have hlb2 : lb < wr.heap.size := by have := HVz.out; omega
          have l2 := (hb2.cell (p := ⟨lb, lo + p, none⟩) hlb2).trans l0
          have HK2 := Lib.hid hk2
          have HB22 := Lib.hid hb2
          have e0 : W2.cell? ⟨wr.heap.size, 0, none⟩ = some (.int .u64 x) := (hk2.cell 0).trans rfl
          have HS3 := Lib.hid (HS2.out.more (bk_grown_below (HBp.out.trans (hb2.mono HBp.out.size))))
          obtain ⟨gb, hgb⟩ : ∃ gb, wr.heap.size = gb := ⟨_, rfl⟩
          rw [hgb] at e0 HK2 hlb2 ⊢
          clear hW2 hk2 hb2 c0 d0 d1 d2 d3 d4 d5 d6 d7 l0
          go_wp2_with fail
          refine (block_any _ _ _ _ s x _ HS3.out HUx.out).mono ?_
          rintro e W3 ⟨rfl, hb3⟩
          have hbo : blockOf s x = [x0, x1, x2, x3, x4, x5, x6, x7] := by unfold blockOf; rw [HSw.out]; rfl
          rw [hbo, HSw.out]
          simp only [blkV, List.map_cons, List.map_nil, Option.isSome_some]
          have l3 := (hb3.cell (p := ⟨lb, lo + p, none⟩) (Nat.lt_of_lt_of_le hlb2 (by rw [← hgb]; exact HB22.out.size))).trans l2
          have HK3 := Lib.hid (HK2.out.below hb3 HK2.out.lt)
          have HB3 := Lib.hid (HBp.out.trans ((HB22.out.trans (hb3.mono HB22.out.size)).mono HVz.out))
          clear hb3 hbo e0 l2
          go_upto_region 14 with fail
          obtain ⟨W4, hW4⟩ : ∃ W4, W3.alloc (.cells #[.int .u64 x0, .int .u64 x1, .int .u64 x2, .int .u64 x3, .int .u64 x4, .int .u64 x5, .int .u64 x6, .int .u64 x7] 47) = W4 := ⟨_, rfl⟩
          have hk4 : Bk W4 W3.heap.size 47 #[.int .u64 x0, .int .u64 x1, .int .u64 x2, .int .u64 x3, .int .u64 x4, .int .u64 x5, .int .u64 x6, .int .u64 x7] := by rw [← hW4]; exact Bk.new _ _ _
          have hk5 : Bk W4 gb 58 #[.int .u64 x, .int .u64 x0, .int .u64 x1, .int .u64 x2, .int .u64 x3, .int .u64 x4, .int .u64 x5, .int .u64 x6, .int .u64 x7] := by rw [← hW4]; exact HK3.out.alloc _
          have hb4 : Below W3.heap.size W3 W4 := by rw [← hW4]; exact (Below.refl _ _).alloc (Nat.le_refl _) _
          rw [hW4]
          have hlb3 : lb < W3.heap.size := Nat.lt_of_lt_of_le hlb2 (Nat.le_of_lt HK3.out.lt)
          have l4 := (hb4.cell (p := ⟨lb, lo + p, none⟩) hlb3).trans l3
          obtain ⟨gw, hgw⟩ : ∃ gw, W3.heap.size = gw := ⟨_, rfl⟩
          have HB4 := Lib.hid (HB3.out.trans (hb4.mono HB3.out.size))
          rw [hgw] at hk4 ⊢
          have f0 : W4.cell? ⟨gw, 0, none⟩ = some (.int .u64 x0) := (hk4.cell 0).trans rfl
          have f1 : W4.cell? ⟨gw, 1, none⟩ = some (.int .u64 x1) := (hk4.cell 1).trans rfl
          have f2 : W4.cell? ⟨gw, 2, none⟩ = some (.int .u64 x2) := (hk4.cell 2).trans rfl
          have f3 : W4.cell? ⟨gw, 3, none⟩ = some (.int .u64 x3) := (hk4.cell 3).trans rfl
          have f4 : W4.cell? ⟨gw, 4, none⟩ = some (.int .u64 x4) := (hk4.cell 4).trans rfl
          have f5 : W4.cell? ⟨gw, 5, none⟩ = some (.int .u64 x5) := (hk4.cell 5).trans rfl
          have f6 : W4.cell? ⟨gw, 6, none⟩ = some (.int .u64 x6) := (hk4.cell 6).trans rfl
          have f7 : W4.cell? ⟨gw, 7, none⟩ = some (.int .u64 x7) := (hk4.cell 7).trans rfl
          have h0 : W4.cell? ⟨gb, 0, none⟩ = some (.int .u64 x) := (hk5.cell 0).trans rfl
          have h1 : W4.cell? ⟨gb, 1, none⟩ = some (.int .u64 x0) := (hk5.cell 1).trans rfl
          have h2 : W4.cell? ⟨gb, 2, none⟩ = some (.int .u64 x1) := (hk5.cell 2).trans rfl
          have h3 : W4.cell? ⟨gb, 3, none⟩ = some (.int .u64 x2) := (hk5.cell 3).trans rfl
          have h4 : W4.cell? ⟨gb, 4, none⟩ = some (.int .u64 x3) := (hk5.cell 4).trans rfl
          have h5 : W4.cell? ⟨gb, 5, none⟩ = some (.int .u64 x4) := (hk5.cell 5).trans rfl
          have h6 : W4.cell? ⟨gb, 6, none⟩ = some (.int .u64 x5) := (hk5.cell 6).trans rfl
          have h7 : W4.cell? ⟨gb, 7, none⟩ = some (.int .u64 x6) := (hk5.cell 7).trans rfl
          have h8 : W4.cell? ⟨gb, 8, none⟩ = some (.int .u64 x7) := (hk5.cell 8).trans rfl
          obtain ⟨i24, hi24⟩ : ∃ i, Try.prog.info? 24 = some i := Option.isSome_iff_exists.1 (by kernel_rfl)
          have hc24 : Try.prog.cellsOf 24 = 1 := by kernel_rfl
          have hne := fun W => neq_u64s (P := Try.prog) W 8 47 24 Try.underlying47 Try.underlying24 hi24 hc24 [x0, x1, x2, x3, x4, x5, x6, x7] [x0, x1, x2, x3, x4, x5, x6, x7] rfl rfl
          simp only [List.map_cons, List.map_nil, decide_true, Bool.not_true] at hne
          have hm : Try.prog.eqGuardType Try.prog.depth 47 = false := by kernel_rfl
          have hxx : (x != x) = false := by simp
          clear hi24 hc24 hW4 hk4 hk5 hb4 hgw l3 hlb3
          go_quiet (fail)
          go_wp2
          go_roundw
          case rel => exact ⟨p + 1, ⟨by omega, by go_num⟩, below_drewN HB4.out _⟩
          case measure => simp [intOf]; omega
        · obtain rfl : bn = p := by omega
          go_wp2
          go_ret
          exact ⟨rfl, bk_grown_below (by rw [HGx.out]; exact HBVp.out)⟩
end Go.Proofs.Ytddaeaimimdonaa
