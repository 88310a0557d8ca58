/-
  Chapter 19: contract of linker.add. Printed by gen/lke.py.
-/
import Derived.Test.YtddaeaimimdonaaLkD
import Derived.Test.YtddaeaimimdonaaLkEP
namespace Go.Proofs.Ytddaeaimimdonaa
open Go.RowKit
set_option linter.unusedVariables false

theorem own_nothing (w : World) (base : Nat) (e : TypeId) (size : Nat) : w.ownsRow base e size (.slice none 0 0) 0 [] := ⟨by simp, .inl ⟨rfl, rfl⟩⟩
set_option maxRecDepth 100000 in
set_option maxHeartbeats 16000000 in
theorem add_any (g : Nat) (A : Option Addr) (n c : Nat) (out : List Ins) (a0 a1 a2 a3 : PArg) (kk : Int) (ov tv : Value) (tos : List Int) (k : Nat) (A' : Option Addr) (n' c' : Nat) (code : List Ins) (b0 b1 b2 b3 : PArg) (w : World) (h : LkV w g ov out A n c a0 a1 a2 a3 kk tv tos) (hr : RdI w g A' n' code)
    (hp : PartOk code [b0, b1, b2, b3] k) (hok : ∀ i ∈ code, i.Ok) (ha : ∀ a ∈ [b0, b1, b2, b3], a.Ok) (hk : k ≤ 10) (ho : out.length ≤ 5000) :
    Calls Try.prog 45 #[.pointer (some ⟨g, 0, none⟩), .int .i64 k, .agg #[.slice A' n' c', .int .i64 b0.kind, .int .u64 b0.val, .int .i64 b1.kind, .int .u64 b1.val, .int .i64 b2.kind, .int .u64 b2.val, .int .i64 b3.kind, .int .u64 b3.val]] w
      fun e w' => e = .returned (.tuple #[]) ∧ (∃ ov' tv' tos', LkV w' g ov' (addL out k code [b0, b1, b2, b3]) A' n' c' b0 b1 b2 b3 (k : Int) tv' tos') ∧ Below g w w' := by
  obtain ⟨i0, hi0, hz0, hz1, hz2⟩ := info_parts info_int
  have HL0 := Lib.hid h
  have HR0 := Lib.hid hr
  have HLen := Lib.hid hr.insLen
  have hlen := hp.len
  have h256 : n' ≤ 256 := by have := hr.insLen; omega
  have HP := Lib.hid hp
  have HReg := Lib.hid (hp.reg hok)
  have HOne := Lib.hid (hp.one hok ha (by omega))
  have hg := h.lt
  clear h hr hp hok ha hlen
  go_enter Try.func45, Try.ntmps45
  go_upto_if 10 with fail
  obtain ⟨W1, hW1⟩ : ∃ W1, w.alloc (.cells #[.slice A' n' c', .int .i64 b0.kind, .int .u64 b0.val, .int .i64 b1.kind, .int .u64 b1.val, .int .i64 b2.kind, .int .u64 b2.val, .int .i64 b3.kind, .int .u64 b3.val] 80) = W1 := ⟨_, rfl⟩
  rw [hW1]
  have HX1 : Hid (Bk W1 w.heap.size 80 #[.slice A' n' c', .int .i64 b0.kind, .int .u64 b0.val, .int .i64 b1.kind, .int .u64 b1.val, .int .i64 b2.kind, .int .u64 b2.val, .int .i64 b3.kind, .int .u64 b3.val]) := by show Bk _ _ _ _; rw [← hW1]; exact Bk.new _ _ _
  have hb1 : Below w.heap.size w W1 := by rw [← hW1]; exact (Below.refl _ _).alloc (Nat.le_refl _) _
  have HL1 := Lib.hid (own_lk HL0.out hb1)
  have HB1 := Lib.hid (hb1.mono (Nat.le_of_lt hg))
  clear hW1 hb1
  have x0 : W1.cell? ⟨w.heap.size, 0, none⟩ = some (.slice A' n' c') := (HX1.out.cell 0).trans rfl
  have x1 : W1.cell? ⟨w.heap.size, 1, none⟩ = some (.int .i64 b0.kind) := (HX1.out.cell 1).trans rfl
  have x2 : W1.cell? ⟨w.heap.size, 2, none⟩ = some (.int .u64 b0.val) := (HX1.out.cell 2).trans rfl
  have x3 : W1.cell? ⟨w.heap.size, 3, none⟩ = some (.int .i64 b1.kind) := (HX1.out.cell 3).trans rfl
  have x4 : W1.cell? ⟨w.heap.size, 4, none⟩ = some (.int .u64 b1.val) := (HX1.out.cell 4).trans rfl
  have x5 : W1.cell? ⟨w.heap.size, 5, none⟩ = some (.int .i64 b2.kind) := (HX1.out.cell 5).trans rfl
  have x6 : W1.cell? ⟨w.heap.size, 6, none⟩ = some (.int .u64 b2.val) := (HX1.out.cell 6).trans rfl
  have x7 : W1.cell? ⟨w.heap.size, 7, none⟩ = some (.int .i64 b3.kind) := (HX1.out.cell 7).trans rfl
  have x8 : W1.cell? ⟨w.heap.size, 8, none⟩ = some (.int .u64 b3.val) := (HX1.out.cell 8).trans rfl
  go_cut [5] (fun z wx => z = .pointer (some ⟨w.heap.size, 0, none⟩) ∧ ∃ ov', Hid (LkV wx g ov' (startL out k code) A n c a0 a1 a2 a3 kk tv tos ∧ Bk wx w.heap.size 80 #[.slice A' n' c', .int .i64 b0.kind, .int .u64 b0.val, .int .i64 b1.kind, .int .u64 b1.val, .int .i64 b2.kind, .int .u64 b2.val, .int .i64 b3.kind, .int .u64 b3.val] ∧ Below g w wx))
  case first =>
    by_cases hk0 : k = 0
    · subst hk0
      go_wp2_with fail
      go_meet
      exact ⟨rfl, _, HL1.out, HX1.out, HB1.out⟩
    · have hkp : (0 : Int) < (k : Int) := by omega
      have HE : Hid (startL out k code = out ++ clearL code) := by show _ = _; unfold startL; rw [if_neg hk0]
      go_wp2_with fail
      refine (clear_any g A n c out a0 a1 a2 a3 kk ov tv tos A' n' c' code b0 b1 b2 b3 _ HL1.out (HR0.out.below HB1.out) HReg.out ho).mono ?_
      rintro e wn ⟨rfl, ⟨ov', hl⟩, hb, hkp2⟩
      have HX : Hid (LkV wn g ov' (startL out k code) A n c a0 a1 a2 a3 kk tv tos ∧ Bk wn w.heap.size 80 #[.slice A' n' c', .int .i64 b0.kind, .int .u64 b0.val, .int .i64 b1.kind, .int .u64 b1.val, .int .i64 b2.kind, .int .u64 b2.val, .int .i64 b3.kind, .int .u64 b3.val] ∧ Below g w wn) := by
        refine ⟨by rw [HE.out]; exact hl, hkp2 _ _ HX1.out (fun e => by have := Option.some.inj e; omega) (fun c0 fz e => by injection e with _ e _; exact absurd e (by decide)), HB1.out.trans hb⟩
      clear hl hb hkp2
      go_wp2_with fail
      go_meet
      exact ⟨rfl, ov', HX⟩
  case rest =>
  obtain ⟨rfl, ov6, hx⟩ := hcut
  have HL6 := Lib.hid hx.out.1
  have HX6 := Lib.hid hx.out.2.1
  have HB6 := Lib.hid hx.out.2.2
  obtain ⟨out1, ho1⟩ : ∃ x, startL out k code = x := ⟨_, rfl⟩
  have hl1 := startL_len out k code
  have HAdd : Hid (addL out k code [b0, b1, b2, b3] = out1 ++ onesL code [b0, b1, b2, b3] k out1.length n') := by show _ = _; unfold addL; rw [ho1, HLen.out]
  rw [ho1] at HL6 hl1
  have HO1 : Hid (out1.length ≤ 6000) := by show _ ≤ _; omega
  obtain ⟨Ao, co, hov, _⟩ := Rd.of_own HL6.out.out
  subst hov
  clear hx ho1 hl1 x0 x1 x2 x3 x4 x5 x6 x7 x8
  have x0 : wc.cell? ⟨w.heap.size, 0, none⟩ = some (.slice A' n' c') := (HX6.out.cell 0).trans rfl
  have x1 : wc.cell? ⟨w.heap.size, 1, none⟩ = some (.int .i64 b0.kind) := (HX6.out.cell 1).trans rfl
  have x2 : wc.cell? ⟨w.heap.size, 2, none⟩ = some (.int .u64 b0.val) := (HX6.out.cell 2).trans rfl
  have x3 : wc.cell? ⟨w.heap.size, 3, none⟩ = some (.int .i64 b1.kind) := (HX6.out.cell 3).trans rfl
  have x4 : wc.cell? ⟨w.heap.size, 4, none⟩ = some (.int .u64 b1.val) := (HX6.out.cell 4).trans rfl
  have x5 : wc.cell? ⟨w.heap.size, 5, none⟩ = some (.int .i64 b2.kind) := (HX6.out.cell 5).trans rfl
  have x6 : wc.cell? ⟨w.heap.size, 6, none⟩ = some (.int .u64 b2.val) := (HX6.out.cell 6).trans rfl
  have x7 : wc.cell? ⟨w.heap.size, 7, none⟩ = some (.int .i64 b3.kind) := (HX6.out.cell 7).trans rfl
  have x8 : wc.cell? ⟨w.heap.size, 8, none⟩ = some (.int .u64 b3.val) := (HX6.out.cell 8).trans rfl
  have y1 : wc.cell? ⟨g, 1, none⟩ = some (.slice A n c) := (HL6.out.bk.cell 1).trans rfl
  have f1 := HL6.out.bk.frozen 1
  have y2 : wc.cell? ⟨g, 2, none⟩ = some (.int .i64 a0.kind) := (HL6.out.bk.cell 2).trans rfl
  have f2 := HL6.out.bk.frozen 2
  have y3 : wc.cell? ⟨g, 3, none⟩ = some (.int .u64 a0.val) := (HL6.out.bk.cell 3).trans rfl
  have f3 := HL6.out.bk.frozen 3
  have y4 : wc.cell? ⟨g, 4, none⟩ = some (.int .i64 a1.kind) := (HL6.out.bk.cell 4).trans rfl
  have f4 := HL6.out.bk.frozen 4
  have y5 : wc.cell? ⟨g, 5, none⟩ = some (.int .u64 a1.val) := (HL6.out.bk.cell 5).trans rfl
  have f5 := HL6.out.bk.frozen 5
  have y6 : wc.cell? ⟨g, 6, none⟩ = some (.int .i64 a2.kind) := (HL6.out.bk.cell 6).trans rfl
  have f6 := HL6.out.bk.frozen 6
  have y7 : wc.cell? ⟨g, 7, none⟩ = some (.int .u64 a2.val) := (HL6.out.bk.cell 7).trans rfl
  have f7 := HL6.out.bk.frozen 7
  have y8 : wc.cell? ⟨g, 8, none⟩ = some (.int .i64 a3.kind) := (HL6.out.bk.cell 8).trans rfl
  have f8 := HL6.out.bk.frozen 8
  have y9 : wc.cell? ⟨g, 9, none⟩ = some (.int .u64 a3.val) := (HL6.out.bk.cell 9).trans rfl
  have f9 := HL6.out.bk.frozen 9
  have y10 : wc.cell? ⟨g, 10, none⟩ = some (.int .i64 kk) := (HL6.out.bk.cell 10).trans rfl
  have f10 := HL6.out.bk.frozen 10
  have y11 : wc.cell? ⟨g, 11, none⟩ = some (tv) := (HL6.out.bk.cell 11).trans rfl
  have f11 := HL6.out.bk.frozen 11
  go_upto_region 4 with fail
  obtain ⟨V, hV⟩ : ∃ V, (((((((((((wc.setCell ⟨g, 1, none⟩ (.slice A' n' c')).setCell ⟨g, 2, none⟩ (.int .i64 b0.kind)).setCell ⟨g, 3, none⟩ (.int .u64 b0.val)).setCell ⟨g, 4, none⟩ (.int .i64 b1.kind)).setCell ⟨g, 5, none⟩ (.int .u64 b1.val)).setCell ⟨g, 6, none⟩ (.int .i64 b2.kind)).setCell ⟨g, 7, none⟩ (.int .u64 b2.val)).setCell ⟨g, 8, none⟩ (.int .i64 b3.kind)).setCell ⟨g, 9, none⟩ (.int .u64 b3.val)).setCell ⟨g, 10, none⟩ (.int .i64 k)).setCell ⟨g, 11, none⟩ (.slice none 0 0)) = V := ⟨_, rfl⟩
  rw [hV]
  have hgv : wc.grownBy V (some g) := by rw [← hV]; exact ((((((((((grown_set _ _ _ _).trans (grown_set _ _ _ _)).trans (grown_set _ _ _ _)).trans (grown_set _ _ _ _)).trans (grown_set _ _ _ _)).trans (grown_set _ _ _ _)).trans (grown_set _ _ _ _)).trans (grown_set _ _ _ _)).trans (grown_set _ _ _ _)).trans (grown_set _ _ _ _)).trans (grown_set _ _ _ _)
  have HL7 : Hid (LkV V g (.slice Ao out1.length co) out1 A' n' c' b0 b1 b2 b3 (k : Int) (.slice none 0 0) (tosL out1.length code 0)) := by
    refine ⟨?_, HL6.out.out.kept hgv (.inr (HL6.out.bk.ne_own HL6.out.out (by decide))), ?_⟩
    · rw [← hV]
      have h := (((((((((((HL6.out.bk.set_ 1 (.slice A' n' c')).set_ 2 (.int .i64 b0.kind)).set_ 3 (.int .u64 b0.val)).set_ 4 (.int .i64 b1.kind)).set_ 5 (.int .u64 b1.val)).set_ 6 (.int .i64 b2.kind)).set_ 7 (.int .u64 b2.val)).set_ 8 (.int .i64 b3.kind)).set_ 9 (.int .u64 b3.val)).set_ 10 (.int .i64 k)).set_ 11 (.slice none 0 0))
      simpa using h
    · exact own_nothing _ _ _ _
  have HX7 := Lib.hid (HX6.out.grown hgv (by simp; omega))
  have HB7 := Lib.hid (HB6.out.grown hgv (Nat.le_of_lt HL6.out.lt) (fun b e => by cases e; exact Nat.le_refl _))
  clear hV hgv x0 x1 x2 x3 x4 x5 x6 x7 x8 y1 f1 y2 f2 y3 f3 y4 f4 y5 f5 y6 f6 y7 f7 y8 f8 y9 f9 y10 f10 y11 f11
  have q0 : V.cell? ⟨g, 0, none⟩ = some (.slice Ao out1.length co) := (HL7.out.bk.cell 0).trans rfl
  have x0 : V.cell? ⟨w.heap.size, 0, none⟩ = some (.slice A' n' c') := (HX7.out.cell 0).trans rfl
  go_wp2
  go_loopw [33, 6, 7] (fun i a _j wq => ∃ (j : Nat) (A7 : Option Addr) (n7 c7 : Nat), (j ≤ n' ∧ i = .int .i64 j) ∧ a = .int .i64 ((out1.length + beforeL code j : Nat) : Int) ∧ Hid (LkV wq g (.slice Ao out1.length co) out1 A' n' c' b0 b1 b2 b3 (k : Int) (.slice A7 n7 c7) (tosL out1.length code j)) ∧ Hid (Bk wq w.heap.size 80 #[.slice A' n' c', .int .i64 b0.kind, .int .u64 b0.val, .int .i64 b1.kind, .int .u64 b1.val, .int .i64 b2.kind, .int .u64 b2.val, .int .i64 b3.kind, .int .u64 b3.val]) ∧ Hid (Below g w wq)) (fun i _ _ _ => n' - (intOf i).toNat)
  case atStart => exact ⟨0, none, 0, 0, ⟨by omega, rfl⟩, rfl, HL7, HX7, HB7⟩
  case round =>
    obtain ⟨j, A7, n7, c7, ⟨hj, rfl⟩, rfl, HL, HX, HB⟩ := hrel
    have hbt := beforeL_two code j
    obtain ⟨at7, hat7⟩ : ∃ x, out1.length + beforeL code j = x := ⟨_, rfl⟩
    have ho6 := HO1.out
    have hat8 : at7 ≤ 10000 := by omega
    have HT : Hid (tosL out1.length code (j + 1) = tosL out1.length code j ++ [(at7 : Int)]) := by show _ = _; rw [tosL_snoc, hat7]
    have HNx : Hid (out1.length + beforeL code (j + 1) = at7 + sizeL code j) := by show _ = _; rw [beforeL]; omega
    have HTl := Lib.hid (tosL_len out1.length code j)
    have HTm := Lib.hid (tosL_len out1.length code)
    have HTg : Hid (∀ q, q ≤ n' → (tosL out1.length code (n' + 1)).getD q 0 = ((out1.length + beforeL code q : Nat) : Int)) := fun q hq => tosL_get (by omega)
    have HA7 := Lib.hid hat7
    rw [hat7]
    obtain ⟨TL, hTL⟩ : ∃ x, tosL out1.length code j = x := ⟨_, rfl⟩
    rw [hTL] at HL HT HTl
    have HTL := Lib.hid hTL
    clear hat7 hbt ho6 hTL
    have hlq := HL.out.lt
    have q11 : wr.cell? ⟨g, 11, none⟩ = some (.slice A7 n7 c7) := (HL.out.bk.cell 11).trans rfl
    have HLa := Lib.hid (HL.out.more (World.grownBy_alloc wr (.cells #[.int .i64 (at7 : Int)] 3) none))
    have HBa := Lib.hid (HB.out.alloc (Nat.le_of_lt hlq) (.cells #[.int .i64 (at7 : Int)] 3))
    have HXa := Lib.hid (HX.out.alloc (.cells #[.int .i64 (at7 : Int)] 3))
    have hz3 : g + 1 ≤ (wr.alloc (.cells #[.int .i64 (at7 : Int)] 3)).heap.size := HLa.out.lt
    have Ra : Hid (Rd (wr.alloc (.cells #[.int .i64 (at7 : Int)] 3)) (wr.heap.size + 1) 1 (some ⟨wr.heap.size, 0, none⟩) 1 (ints [(at7 : Int)])) := Rd.new wr _ _ (size := 1) (m := 1) rfl (by simp [maxLen])
    have HTb : Hid (TL.length ≤ 300) := by show _ ≤ _; rw [HTl.out]; omega
    have tok1 : True := trivial
    by_cases hlt : j < n'
    · go_wp2_with (first
        | (at_builtin
           have _t := tok1
           go_must (
             refine wpList_app _ rfl (.tmp 40) (.tmp 42) 101 rfl (g + 1) 3 i0 _ 1 8 Try.underlying101 hi0 hz0 hz1 hz2 rfl (by omega) _ _ _ rfl HLa.out.tos _ _ 1 _ _ rfl Ra.out (ints_one _) ?_ ?_ ?_ ?_
             · have := HTb.out; simp only [maxLen]; omega
             · have := HTb.out; omega
             · exact hz3
             intro v5 w5 hown5 hg5 _
             obtain ⟨A5, c5, hv5, _, _⟩ := Rd.of_own_cap hown5
             subst hv5
             have HO5 := Lib.hid hown5
             have HG5 := Lib.hid hg5
             have hk5 := HLa.out.bk.grown hg5 (HLa.out.bk.ne_own HLa.out.tos (by decide))
             have q0 : w5.cell? ⟨g, 11, none⟩ = some (.slice A7 n7 c7) := (hk5.cell 11).trans rfl
             have p0 := hk5.frozen 11
             have HB5 := Lib.hid (HBa.out.trans (below_row HLa.out.tos hg5 (Nat.le_of_lt HLa.out.lt)))
             have HX5 := Lib.hid (HXa.out.grown hg5 (HXa.out.ne_own HLa.out.tos (by decide)))
             have hg5' := hk5.lt
             clear hown5 hg5 hk5 _t tok1))
        | fail)
      obtain ⟨W8, hW8⟩ : ∃ W8, w5.setCell ⟨g, 11, none⟩ (.slice A5 (TL.length + 1) c5) = W8 := ⟨_, rfl⟩
      rw [hW8]
      have HL8 : Hid (LkV W8 g (.slice Ao out1.length co) out1 A' n' c' b0 b1 b2 b3 (k : Int) (.slice A5 (TL.length + 1) c5) (tosL out1.length code (j + 1))) := by show LkV _ _ _ _ _ _ _ _ _ _ _ _ _ _; rw [HT.out, ← hW8]; exact LkV.to_app HLa.out HG5.out HO5.out rfl
      have HB8 : Hid (Below g w W8) := by show Below _ _ _; rw [← hW8]; exact HB5.out.setCell (p := ⟨g, 11, none⟩) (Nat.le_refl _) _
      have HX8 : Hid (Bk W8 w.heap.size 80 #[.slice A' n' c', .int .i64 b0.kind, .int .u64 b0.val, .int .i64 b1.kind, .int .u64 b1.val, .int .i64 b2.kind, .int .u64 b2.val, .int .i64 b3.kind, .int .u64 b3.val]) := by show Bk _ _ _ _; rw [← hW8]; exact HX5.out.set_other (p := ⟨g, 11, none⟩) (Nat.ne_of_lt hg)
      clear hW8
      have hs2 := sizeL_two code j
      refine (size_any g A' n' c' code g j _ ((HL8.out.bk.cell 1).trans rfl) (HR0.out.below HB8.out) hlt (by omega)).mono ?_
      rintro e W9 ⟨rfl, rfl⟩
      obtain ⟨sz, hsz⟩ : ∃ x, sizeL code j = x := ⟨_, rfl⟩
      rw [hsz] at hs2 HNx ⊢
      clear hsz
      go_wp2
      go_roundw
      case rel => exact ⟨j + 1, A5, _, c5, ⟨by omega, by go_num⟩, by rw [HNx.out]; go_num, HL8, HX8, HB8⟩
      case measure => simp [intOf]; omega
    · obtain rfl : n' = j := by omega
      have hvg : w.heap.size ≠ g := Nat.ne_of_gt hg
      have hvg2 : g ≠ w.heap.size := Nat.ne_of_lt hg
      go_wp2_with (first
        | (at_builtin
           have _t := tok1
           go_must (
             refine wpList_app _ rfl (.tmp 56) (.tmp 58) 101 rfl (g + 1) 3 i0 _ 1 8 Try.underlying101 hi0 hz0 hz1 hz2 rfl (by omega) _ _ _ rfl HLa.out.tos _ _ 1 _ _ rfl Ra.out (ints_one _) ?_ ?_ ?_ ?_
             · have := HTb.out; simp only [maxLen]; omega
             · have := HTb.out; omega
             · exact hz3
             intro v5 w5 hown5 hg5 _
             obtain ⟨A5, c5, hv5, _, _⟩ := Rd.of_own_cap hown5
             subst hv5
             have HO5 := Lib.hid hown5
             have HG5 := Lib.hid hg5
             have hk5 := HLa.out.bk.grown hg5 (HLa.out.bk.ne_own HLa.out.tos (by decide))
             have q0 : w5.cell? ⟨g, 11, none⟩ = some (.slice A7 n7 c7) := (hk5.cell 11).trans rfl
             have p0 := hk5.frozen 11
             have HB5 := Lib.hid (HBa.out.trans (below_row HLa.out.tos hg5 (Nat.le_of_lt HLa.out.lt)))
             have HX5 := Lib.hid (HXa.out.grown hg5 (HXa.out.ne_own HLa.out.tos (by decide)))
             have hg5' := hk5.lt
             have x0 : w5.cell? ⟨w.heap.size, 0, none⟩ = some (.slice A' n' c') := (HX5.out.cell 0).trans rfl
             clear hown5 hg5 hk5 _t tok1))
        | fail)
      obtain ⟨W8, hW8⟩ : ∃ W8, w5.setCell ⟨g, 11, none⟩ (.slice A5 (TL.length + 1) c5) = W8 := ⟨_, rfl⟩
      rw [hW8]
      have HL8 : Hid (LkV W8 g (.slice Ao out1.length co) out1 A' n' c' b0 b1 b2 b3 (k : Int) (.slice A5 (TL.length + 1) c5) (tosL out1.length code (n' + 1))) := by show LkV _ _ _ _ _ _ _ _ _ _ _ _ _ _; rw [HT.out, ← hW8]; exact LkV.to_app HLa.out HG5.out HO5.out rfl
      have HB8 : Hid (Below g w W8) := by show Below _ _ _; rw [← hW8]; exact HB5.out.setCell (p := ⟨g, 11, none⟩) (Nat.le_refl _) _
      have HX8 : Hid (Bk W8 w.heap.size 80 #[.slice A' n' c', .int .i64 b0.kind, .int .u64 b0.val, .int .i64 b1.kind, .int .u64 b1.val, .int .i64 b2.kind, .int .u64 b2.val, .int .i64 b3.kind, .int .u64 b3.val]) := by show Bk _ _ _ _; rw [← hW8]; exact HX5.out.set_other (p := ⟨g, 11, none⟩) (Nat.ne_of_lt hg)
      clear hW8 x0
      have HRo := Lib.hid (HR0.out)
      go_loopw [65, 8] (fun i _j wq => ∃ (j : Nat) (A6 : Option Addr) (n6 c6 : Nat), (j ≤ n' ∧ i = .int .i64 j) ∧ Hid (LkV wq g (.slice A6 n6 c6) (out1 ++ onesL code [b0, b1, b2, b3] k out1.length j) A' n' c' b0 b1 b2 b3 (k : Int) (.slice A5 (TL.length + 1) c5) (tosL out1.length code (n' + 1))) ∧ Hid (Below g w wq)) (fun i _ _ => n' - (intOf i).toNat)
      case atStart =>
        refine ⟨0, Ao, out1.length, co, ⟨by omega, rfl⟩, ?_, HB8⟩
        rw [show out1 ++ onesL code [b0, b1, b2, b3] k out1.length 0 = out1 by simp [onesL]]
        exact HL8
      case round =>
        obtain ⟨j, A6, n6, c6, ⟨hj, rfl⟩, HLq, HBq⟩ := hrel
        by_cases hlt : j < n'
        · have hbt := beforeL_two code n'
          have hot := onesL_len code [b0, b1, b2, b3] k out1.length j
          have ho6 := HO1.out
          go_wp2_with fail
          refine (lone_any g out1.length j n' c' k A' code (out1 ++ onesL code [b0, b1, b2, b3] k out1.length j) b0 b1 b2 b3 _ _ _ _ HLq.out (HR0.out.below HBq.out) hlt (fun i hi => by have h := HOne.out i (List.mem_of_getElem? hi); rw [HLen.out] at h; exact h) (tosL_len _ _ _) HTg.out hk (by rw [List.length_append]; omega) (by omega) (by omega) (fun q hq => beforeL_mono code hq)).mono ?_
          rintro e W9 ⟨rfl, ⟨ov', hl⟩, hb⟩
          obtain ⟨A9, c9, e9, _⟩ := Rd.of_own hl.out
          subst e9
          rw [List.append_assoc, ← onesL_snoc] at hl
          have HL9 := Lib.hid hl
          have HB9 := Lib.hid (HBq.out.trans hb)
          clear hl hb hbt hot ho6
          go_wp2
          go_roundw
          case rel => exact ⟨j + 1, A9, _, c9, ⟨by omega, by go_num⟩, HL9, HB9⟩
          case measure => simp [intOf]; omega
        · obtain rfl : n' = j := by omega
          go_wp2
          go_end0
          exact ⟨rfl, ⟨_, _, _, by rw [HAdd.out]; exact HLq.out⟩, HBq.out⟩
end Go.Proofs.Ytddaeaimimdonaa
