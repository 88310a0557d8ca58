/-
  Texts of one proof, joined (wip/gen/pack.py): ModD, ModE, ModK, ModG, ModH, ChkG, ChkH.
-/
import Derived.Test.YtjggmimaolddkaaObAD
import Derived.RegionTactic
import Derived.Deep.RegionHeld3
import Derived.Deep.RegionLaw
import Derived.Carry
import Derived.Test.YtjggmimaolddkaaShelf
import Derived.Test.YtjggmimaolddkaaObAC
namespace Go.Proofs.Ytjggmimaolddkaa
open Go.RowKit
set_option linter.unusedVariables false
theorem info_u64 : (Try.prog.info? 31).map (fun i => (i.zero, i.size, i.bytes)) = some (some (.int .u64 0), 1, 8) := by kernel_rfl

set_option maxRecDepth 100000 in
set_option maxHeartbeats 8000000 in
theorem free_any (B NB g : Nat) (args : List Int) (maxw : Int) (a b c : Nat) (imm : Int) (r : MRun) (sb mb n : Nat) (pA : Option Addr) (pc_ : Nat) (nv : Value) (w : World) (h : RunIn w B NB g args maxw r sb mb n pA pc_ nv) (hok : ROk maxw r) (ha16 : a < 16) :
    Calls Try.prog 55 #[.pointer (some ⟨g, 0, none⟩), .agg #[.int .i64 16, .int .i64 a, .int .i64 b, .int .i64 c, .int .u64 imm]] w (DoPost2 B NB g args maxw (freeP maxw ⟨16, a, b, c, imm⟩ r) w) := by
  obtain ⟨W1, hW1⟩ : ∃ W1, w.alloc (.cells #[.int .i64 16, .int .i64 a, .int .i64 b, .int .i64 c, .int .u64 imm] 62) = W1 := ⟨_, rfl⟩
  have HG1 : Hid (w.grownBy W1 none) := by show World.grownBy _ _ _; rw [← hW1]; exact World.grownBy_alloc _ _ _
  have hI : Bk W1 w.heap.size 62 #[.int .i64 16, .int .i64 a, .int .i64 b, .int .i64 c, .int .u64 imm] := by rw [← hW1]; exact Bk.new w _ _
  have HP := Lib.hid h.pos
  have HNg : Hid (g ≠ w.heap.size) := fun e => by have := h.lt.1; omega
  have HNm : Hid (mb ≠ w.heap.size) := fun e => by have := h.lt.2.2; omega
  have HR := Lib.hid (h.more HG1.out)
  have HI := Lib.hid hI
  have HW1 := Lib.hid hW1
  have HK := Lib.hid hok
  have q0 : W1.cell? ⟨w.heap.size, 0, none⟩ = some (.int .i64 16) := (hI.cell 0).trans rfl
  have q1 : W1.cell? ⟨w.heap.size, 1, none⟩ = some (.int .i64 a) := (hI.cell 1).trans rfl
  have ai : (a : Int) < 16 := by omega
  obtain ⟨X, hX⟩ : ∃ X, r.regs.getD a 0 = X := ⟨_, rfl⟩
  have HUX : Hid (U64 X) := by show U64 X; rw [← hX]; exact getD_u64 hok.regs a
  have kX : W1.cell? ⟨g, 5 + a, none⟩ = some (.int .u64 X) := by rw [← hX]; exact HR.out.bk.reg ha16
  have HX : Hid (r.reg (a : Int) = X) := hX
  clear hW1 hI hX h hok
  go_enter Try.func55, Try.ntmps55
  go_wp2_with fail
  rw [HW1.out]
  go_quiet (fail)
  generalize hW2 : World.drewN _ _ = W2
  have HG2 : Hid (W1.grownBy W2 none) := by show World.grownBy _ _ _; rw [← hW2]; exact grown_drewN _ _ _
  clear hW2 kX q0 q1
  have HR2 := Lib.hid (HR.out.more HG2.out)
  have HGw := Lib.hid (HG1.out.trans HG2.out)
  have hI2 := HI.out.grown HG2.out (by simp)
  have q0 : W2.cell? ⟨w.heap.size, 0, none⟩ = some (.int .i64 16) := (hI2.cell 0).trans rfl
  have kS : W2.cell? ⟨g, 0, none⟩ = some (.pointer (some ⟨sb, 0, none⟩)) := (HR2.out.bk.bk.cell 0).trans rfl
  have kM : W2.cell? ⟨sb, 16, none⟩ = some (.map (some mb)) := HR2.out.st.map HR2.out.roots
  have hlk := HR2.out.map.look (t := 96) (e := 91) Try.underlying31 Try.underlying96 (zero_blk _) HUX.out
  have HI2 := Lib.hid hI2
  clear hI2
  cases hf : r.st.blocks X with
  | none =>
    rw [hf] at hlk
    simp only [Option.getD_none, Option.isSome_none, blkV, zero8, List.map_cons, List.map_nil] at hlk
    have HE : Hid (freeP maxw ⟨16, a, b, c, imm⟩ r = (44, r)) := by
      show _ = _
      rw [freeP, HX.out, hf]
    clear hf
    go_wp2
    go_ret
    rw [HE.out]
    exact DoPost2.mk rfl (HR2.out.more (World.grownBy_alloc _ _ _)) ((Below.refl _ _).grown (HGw.out.trans (World.grownBy_alloc _ _ none)) HP.out (by simp))
  | some ws =>
    rw [hf] at hlk
    have h8 := HR2.out.map.words HUX.out hf
    obtain ⟨x0, x1, x2, x3, x4, x5, x6, x7, hws⟩ := eight h8
    subst hws
    simp only [Option.getD_some, Option.isSome_some, blkV, List.map_cons, List.map_nil] at hlk
    have HF := Lib.hid hf
    clear hf
    obtain ⟨W3, hW3⟩ : ∃ W3, W2.alloc (.cells #[.int .u64 x0, .int .u64 x1, .int .u64 x2, .int .u64 x3, .int .u64 x4, .int .u64 x5, .int .u64 x6, .int .u64 x7] 91) = W3 := ⟨_, rfl⟩
    have HG3 : Hid (W2.grownBy W3 none) := by show World.grownBy _ _ _; rw [← hW3]; exact World.grownBy_alloc _ _ _
    have HR3 := Lib.hid (HR2.out.more HG3.out)
    have HI3 := Lib.hid (HI2.out.grown HG3.out (by simp))
    have HGv := Lib.hid (HGw.out.trans HG3.out)
    have HW3 := Lib.hid hW3
    clear hW3
    go_upto_region 5 with fail
    rw [HW3.out]
    have p0 : W3.cell? ⟨w.heap.size, 0, none⟩ = some (.int .i64 16) := (HI3.out.cell 0).trans rfl
    clear kS kM q0 hlk
    go_wp2_with fail
    refine (payIn_any B NB g args maxw 16 r sb mb n pA pc_ nv _ HR3.out HK.out).mono ?_
    intro e W4 hp
    obtain ⟨hp | hp, hg⟩ := hp
    · obtain ⟨hpay, rfl, hr4⟩ := hp
      have HE : Hid (freeP maxw ⟨16, a, b, c, imm⟩ r = (42, r)) := by
        show _ = _
        rw [freeP, HX.out, HF.out]
        simp only [hpay]
      have HG4 : Hid (w.grownBy W4 (some g)) := (HGv.out.but _).trans hg
      have HR4 := Lib.hid hr4
      clear hg hr4 hpay
      go_wp2
      go_ret
      rw [HE.out]
      exact DoPost2.mk rfl HR4.out ((Below.refl _ _).grown HG4.out HP.out (fun k hk => by cases hk; exact HR4.out.bg))
    · obtain ⟨r', hpay, es, er, en, ep, rfl, hr4⟩ := hp
      have HE : Hid (freeP maxw ⟨16, a, b, c, imm⟩ r = (0, { r' with st := { r.st with blocks := upd r.st.blocks X none } })) := by
        show _ = _
        rw [freeP, HX.out, HF.out]
        simp only [hpay]
      have HR4 := Lib.hid hr4
      have HG4 : Hid (w.grownBy W4 (some g)) := (HGv.out.but _).trans hg
      have HS := Lib.hid es
      have kS : W4.cell? ⟨g, 0, none⟩ = some (.pointer (some ⟨sb, 0, none⟩)) := (HR4.out.bk.bk.cell 0).trans rfl
      have kM : W4.cell? ⟨sb, 16, none⟩ = some (.map (some mb)) := HR4.out.st.map HR4.out.roots
      clear hg hr4 hpay es er p0
      go_wp2_with (at_delete; refine wpList_drop_blk _ (by rfl) (.tmp 43) (.tmp 44) 96 31 (by rfl) 91 Try.underlying31 Try.underlying96 mb n r'.st.blocks (by rfl) HR4.out.map X (by rfl) HUX.out ?_)
      intro W6 hown6 hg6
      have hr6 : RunIn W6 B NB g args maxw { r' with st := { r.st with blocks := upd r.st.blocks X none } } sb mb n pA pc_ nv := by
        rw [← HS.out]
        exact HR4.out.maps hg6 hown6 HR4.out.nb
      have HR6 := Lib.hid hr6
      have HB6 := Lib.hid (((Below.refl B w).grown HG4.out HP.out (fun k hk => by cases hk; exact HR4.out.bg)).trans ((Below.refl _ _).grown hg6 HR4.out.pos (fun k hk => by cases hk; exact HR4.out.bm)))
      clear hown6 hg6 hr6 kS kM
      go_wp2
      go_ret
      rw [HE.out]
      exact DoPost2.mk rfl HR6.out HB6.out

/-- The rest of the handles that there are. -/
theorem RunIn.pickTo {w : World} {B NB g : Nat} {args : List Int} {maxw : Int} {r : MRun} {sb mb n : Nat} {pA : Option Addr} {pc_ : Nat} {nv : Value} (h : RunIn w B NB g args maxw r sb mb n pA pc_ nv) {x : Int} {rest : List Int} (hp : r.pick = x :: rest) {pA' : Option Addr} {pc' : Nat}
    (hrd : RdU w B pA' rest.length rest) (hpc : rest.length ≤ pc') : RunIn (w.setCell ⟨g, 22, none⟩ (.slice pA' rest.length pc')) B NB g args maxw { r with pick := rest } sb mb n pA' pc' nv := by
  obtain ⟨n1, n2, n3, n4, n5, n6⟩ := h.ne
  have hg := grown_set w g 22 (.slice pA' rest.length pc')
  exact ⟨h.bk.setAny (RC.set_pick h.bk.2.1 h.bk.2.2 _) h.bk.2.1 h.bk.2.2, Bk.grown h.st hg (by simpa using n1), h.map.kept hg (by simpa using fun e => n2 e.symm), by have := h.nb; rw [hp, List.length_cons] at this; show n + rest.length ≤ NB; omega, h.news.kept hg (by
    cases hv : nv.ownBlock with
    | none => exact .inl rfl
    | some b => exact .inr (by rw [← hv]; exact n4)), hrd.below ((Below.refl _ _).grown hg h.pos (fun j hj => by cases hj; exact h.bg)), hpc, h.bg, h.bs, h.bm, h.roots⟩
/-- A handle more. -/
theorem RunIn.newsTo {w w' : World} {B NB g : Nat} {args : List Int} {maxw : Int} {r : MRun} {sb mb n : Nat} {pA : Option Addr} {pc_ : Nat} {nv v : Value} (h : RunIn w B NB g args maxw r sb mb n pA pc_ nv) {x : Int}
    (hg : w.grownBy w' nv.ownBlock) (ho : w'.ownsRow B 31 1 v (r.news.length + 1) (u64s r.news ++ [.int .u64 x])) : RunIn (w'.setCell ⟨g, 27, none⟩ v) B NB g args maxw { r with news := r.news ++ [x] } sb mb n pA pc_ v := by
  obtain ⟨n1, n2, n3, n4, n5, n6⟩ := h.ne
  have hs := grown_set w' g 27 v
  have hb := h.bk.grown hg n4
  have hst : Bk w' sb _ _ := Bk.grown h.st hg n5
  have hm := h.map.kept hg n6
  refine ⟨hb.setAny (RC.set_news hb.2.1 hb.2.2 _) hb.2.1 hb.2.2, Bk.grown hst hs (by simpa using n1), hm.kept hs (by simpa using fun e => n2 e.symm), h.nb, ?_, ?_, h.pcap, h.bg, h.bs, h.bm, h.roots⟩
  · have e : u64s (r.news ++ [x]) = u64s r.news ++ [.int .u64 x] := by simp
    show World.ownsRow _ _ _ _ _ (r.news ++ [x]).length (u64s (r.news ++ [x]))
    rw [e, List.length_append]
    have h4 := hb.bk.ne_own ho (by decide)
    exact ho.kept hs (by
      cases hv : v.ownBlock with
      | none => exact .inl rfl
      | some b => exact .inr (by rw [← hv]; exact h4))
  · have hB : ∀ j, nv.ownBlock = some j → B ≤ j := fun j hj => (h.news.lt j hj).1
    exact (h.pick.below ((Below.refl _ _).grown hg h.pos hB)).below ((Below.refl _ _).grown hs (Nat.le_trans h.pos hg.size) (fun j hj => by cases hj; exact h.bg))
theorem RunIn.putReg {w : World} {B NB g : Nat} {args : List Int} {maxw : Int} {r : MRun} {sb mb n : Nat} {pA : Option Addr} {pc_ : Nat} {nv : Value} (h : RunIn w B NB g args maxw r sb mb n pA pc_ nv) {a : Nat} (ha : a < 16) (x : Int) : RunIn (w.setCell ⟨g, 5 + a, none⟩ (.int .u64 x)) B NB g args maxw { r with regs := r.regs.set a x } sb mb n pA pc_ nv :=
  h.self (r' := { r with regs := r.regs.set a x }) (grown_set _ _ _ _) (h.bk.setAny (RC.set_reg h.bk.2.1 (by rw [h.bk.2.2]; exact ha) x) h.bk.2.1 (by have := h.bk.2.2; show (r.regs.set a x).length = 16; rw [List.length_set]; exact this)) rfl rfl rfl

set_option maxRecDepth 100000 in
set_option maxHeartbeats 8000000 in
theorem fresh_any (B NB g : Nat) (args : List Int) (maxw : Int) (a b c : Nat) (imm : Int) (r : MRun) (sb mb n : Nat) (pA : Option Addr) (pc_ : Nat) (nv : Value) (w : World) (h : RunIn w B NB g args maxw r sb mb n pA pc_ nv) (hok : ROk maxw r) (ha16 : a < 16) (hNB : NB < 1000000000000) (hnl : r.news.length ≤ 1000000000) (hpl : r.pick.length ≤ 1000000000) :
    Calls Try.prog 54 #[.pointer (some ⟨g, 0, none⟩), .agg #[.int .i64 15, .int .i64 a, .int .i64 b, .int .i64 c, .int .u64 imm]] w (DoPost2 B NB g args maxw (freshP maxw ⟨15, a, b, c, imm⟩ r) w) := by
  obtain ⟨i0, hi0, hy0, hy1, hy2⟩ := info_parts info_u64
  obtain ⟨W1, hW1⟩ : ∃ W1, w.alloc (.cells #[.int .i64 15, .int .i64 a, .int .i64 b, .int .i64 c, .int .u64 imm] 62) = W1 := ⟨_, rfl⟩
  have HG1 : Hid (w.grownBy W1 none) := by show World.grownBy _ _ _; rw [← hW1]; exact World.grownBy_alloc _ _ _
  have hI : Bk W1 w.heap.size 62 #[.int .i64 15, .int .i64 a, .int .i64 b, .int .i64 c, .int .u64 imm] := by rw [← hW1]; exact Bk.new w _ _
  have HP := Lib.hid h.pos
  have HNg : Hid (g ≠ w.heap.size) := fun e => by have := h.lt.1; omega
  have HNm : Hid (mb ≠ w.heap.size) := fun e => by have := h.lt.2.2; omega
  have HR := Lib.hid (h.more HG1.out)
  have HI := Lib.hid hI
  have HW1 := Lib.hid hW1
  have HK := Lib.hid hok
  have q0 : W1.cell? ⟨w.heap.size, 0, none⟩ = some (.int .i64 15) := (hI.cell 0).trans rfl
  have q1 : W1.cell? ⟨w.heap.size, 1, none⟩ = some (.int .i64 a) := (hI.cell 1).trans rfl
  have ai : (a : Int) < 16 := by omega
  clear hW1 hI h hok
  go_enter Try.func54, Try.ntmps54
  go_wp2_with fail
  rw [HW1.out]
  refine (payIn_any B NB g args maxw 15 r sb mb n pA pc_ nv _ HR.out HK.out).mono ?_
  intro e W4 hp
  obtain ⟨hp | hp, hg⟩ := hp
  · obtain ⟨hpay, rfl, hr4⟩ := hp
    have HE : Hid (freshP maxw ⟨15, a, b, c, imm⟩ r = (42, r)) := by
      show _ = _
      rw [freshP]
      simp only [hpay]
    have HG4 : Hid (w.grownBy W4 (some g)) := (HG1.out.but _).trans hg
    have HR4 := Lib.hid hr4
    clear hg hr4 hpay
    go_wp2
    go_ret
    rw [HE.out]
    exact DoPost2.mk rfl HR4.out ((Below.refl _ _).grown HG4.out HP.out (fun k hk => by cases hk; exact HR4.out.bg))
  · obtain ⟨r', hpay, es, er, en, ep, rfl, hr4⟩ := hp
    have HPay := Lib.hid hpay
    have HR4 := Lib.hid hr4
    have HG4 : Hid (w.grownBy W4 (some g)) := (HG1.out.but _).trans hg
    have HB4 := Lib.hid ((Below.refl B w).grown HG4.out HP.out (fun k hk => by cases hk; exact HR4.out.bg))
    have HS := Lib.hid (And.intro es (And.intro er (And.intro en ep)))
    have hI4 := HI.out.grown hg (fun e => HNg.out (Option.some.inj e))
    have HI4 := Lib.hid hI4
    have k22 : W4.cell? ⟨g, 22, none⟩ = some (.slice pA r'.pick.length pc_) := (HR4.out.bk.tail 1).trans rfl
    have f22 := HR4.out.bk.bk.frozen 22
    have hlt := HR4.out.lt
    obtain ⟨hltg, hlts, hltm⟩ := hlt
    clear hg hr4 hpay es er en hI4 q0 q1
    rw [ep] at k22
    clear ep
    cases hpk : r.pick with
    | nil =>
      rw [hpk] at k22
      have HE : Hid (freshP maxw ⟨15, a, b, c, imm⟩ r = (43, r')) := by
        show _ = _
        rw [freshP]
        simp only [HPay.out, hpk]
      clear hpk
      simp only [List.length_nil] at k22
      go_wp2
      go_ret
      rw [HE.out]
      exact DoPost2.mk rfl HR4.out HB4.out
    | cons x rest =>
      rw [hpk, List.length_cons] at k22
      have hpk' : r'.pick = x :: rest := by rw [HS.out.2.2.2, hpk]
      obtain ⟨pb, po, hpA, hpb, hcell⟩ := HR4.out.pick.at_ (by rw [hpk']; simp)
      subst hpA
      have kx : W4.cell? ⟨pb, po, none⟩ = some (.int .u64 x) := hcell 0 _ (by rw [hpk']; rfl)
      have hux : U64 x := HK.out.pick x (by rw [hpk]; simp)
      have HUX := Lib.hid hux
      have HPk := Lib.hid hpk'
      have HPr := Lib.hid hpk
      have kS : W4.cell? ⟨g, 0, none⟩ = some (.pointer (some ⟨sb, 0, none⟩)) := (HR4.out.bk.bk.cell 0).trans rfl
      have kM : W4.cell? ⟨sb, 16, none⟩ = some (.map (some mb)) := HR4.out.st.map HR4.out.roots
      have hlk := HR4.out.map.look (t := 96) (e := 91) Try.underlying31 Try.underlying96 (zero_blk _) HUX.out
      rw [HS.out.1] at hlk
      obtain ⟨hx0, hx1⟩ := hux
      have hpb2 : pb < W4.heap.size := Nat.lt_of_lt_of_le hpb HR4.out.pos
      clear hpk hpk' hcell
      by_cases hbad : (r.st.blocks x).isSome ∨ x = 0 ∨ 64 < x
      · have HE : Hid (freshP maxw ⟨15, a, b, c, imm⟩ r = (43, r')) := by
          show _ = _
          rw [freshP]
          simp only [HPay.out, HPr.out, if_pos hbad]
        have HBad := Lib.hid hbad
        clear hbad
        cases hf : r.st.blocks x with
        | some ws =>
          rw [hf] at hlk
          have h8 := HR4.out.map.words HUX.out (by rw [HS.out.1]; exact hf)
          obtain ⟨x0, x1, x2, x3, x4, x5, x6, x7, hws⟩ := eight h8
          subst hws
          simp only [Option.getD_some, Option.isSome_some, blkV, List.map_cons, List.map_nil] at hlk
          clear hf
          go_wp2
          go_ret
          rw [HE.out]
          exact DoPost2.mk rfl (HR4.out.more (World.grownBy_alloc _ _ _)) (HB4.out.trans ((Below.refl _ _).grown (World.grownBy_alloc _ _ none) HR4.out.pos (by simp)))
        | none =>
          rw [hf] at hlk
          have hb2 : x = 0 ∨ 64 < x := by
            rcases HBad.out with h | h
            · rw [hf] at h; cases h
            · exact h
          simp only [Option.getD_none, Option.isSome_none, blkV, zero8, List.map_cons, List.map_nil] at hlk
          clear hf
          rcases hb2 with rfl | hb2
          · go_wp2
            go_ret
            rw [HE.out]
            exact DoPost2.mk rfl (HR4.out.more (World.grownBy_alloc _ _ _)) (HB4.out.trans ((Below.refl _ _).grown (World.grownBy_alloc _ _ none) HR4.out.pos (by simp)))
          · have hz : (x == 0) = false := by simp; omega
            have hd : decide (x > 64) = true := decide_eq_true hb2
            have hd2 : decide (64 < x) = true := decide_eq_true hb2
            go_wp2
            go_ret
            rw [HE.out]
            exact DoPost2.mk rfl (HR4.out.more (World.grownBy_alloc _ _ _)) (HB4.out.trans ((Below.refl _ _).grown (World.grownBy_alloc _ _ none) HR4.out.pos (by simp)))
      · have hf : r.st.blocks x = none := by
          cases hf : r.st.blocks x with
          | none => rfl
          | some ws => exact absurd (.inl (by rw [hf]; rfl)) hbad
        have hz0 : ¬ x = 0 := fun e => hbad (.inr (.inl e))
        have h64 : ¬ 64 < x := fun e => hbad (.inr (.inr e))
        have HE : Hid (freshP maxw ⟨15, a, b, c, imm⟩ r = (0, { r' with pick := rest, st := { r.st with blocks := upd r.st.blocks x (some zero8) }, news := r.news ++ [x], regs := r.regs.set a x })) := by
          show _ = _
          rw [freshP]
          simp only [HPay.out, HPr.out, if_neg hbad]
          rfl
        rw [hf] at hlk
        simp only [Option.getD_none, Option.isSome_none, blkV, zero8, List.map_cons, List.map_nil] at hlk
        have hz : (x == 0) = false := by simpa using hz0
        have hd : decide (x > 64) = false := decide_eq_false h64
        have hd2 : decide (64 < x) = false := decide_eq_false h64
        clear hbad hf hz0 h64
        obtain ⟨W5, hW5⟩ : ∃ W5, W4.alloc (.cells #[.int .u64 0, .int .u64 0, .int .u64 0, .int .u64 0, .int .u64 0, .int .u64 0, .int .u64 0, .int .u64 0] 91) = W5 := ⟨_, rfl⟩
        have HG5 : Hid (W4.grownBy W5 none) := by show World.grownBy _ _ _; rw [← hW5]; exact World.grownBy_alloc _ _ _
        have HR5 := Lib.hid (HR4.out.more HG5.out)
        have HW5 := Lib.hid hW5
        clear hW5
        go_upto_region 10 with fail
        rw [HW5.out]
        clear kS kM k22 f22 kx hlk hltg hlts hltm hpb2
        have hnb := HR5.out.nb
        rw [HPk.out, List.length_cons] at hnb
        have hpc5 := HR5.out.pcap
        rw [HPk.out, List.length_cons] at hpc5
        have hrd := HR5.out.pick
        rw [HPk.out, List.length_cons] at hrd
        have hpl' : rest.length + 1 ≤ 1000000000 := by rw [HPr.out, List.length_cons] at hpl; exact hpl
        obtain ⟨m, hm⟩ : ∃ m, rest.length = m := ⟨_, rfl⟩
        have hrd2 : RdU W5 B (some ⟨pb, po + 1, none⟩) rest.length rest := by
          refine ⟨by simp, by rw [hm] at hpl' ⊢; unfold maxLen; omega, fun h0 => ⟨pb, po + 1, rfl, hpb, fun j u hu => ?_⟩⟩
          obtain ⟨b', o', hA, _, hc⟩ := hrd.at_ (by omega)
          have hA := Option.some.inj hA
          injection hA with e1 e2
          subst e1
          subst e2
          have := hc (j + 1) u (by simpa using hu)
          rw [show po + 1 + j = po + (j + 1) by omega]; exact this
        have k22 : W5.cell? ⟨g, 22, none⟩ = some (.slice (some ⟨pb, po, none⟩) (m + 1) pc_) := by
          have h := (HR5.out.bk.tail 1)
          rw [h, ← hm]
          show some (Value.slice _ r'.pick.length _) = _
          rw [HPk.out, List.length_cons]
        have f22 := HR5.out.bk.bk.frozen 22
        have kS : W5.cell? ⟨g, 0, none⟩ = some (.pointer (some ⟨sb, 0, none⟩)) := (HR5.out.bk.bk.cell 0).trans rfl
        have kM : W5.cell? ⟨sb, 16, none⟩ = some (.map (some mb)) := HR5.out.st.map HR5.out.roots
        have k27 : W5.cell? ⟨g, 27, none⟩ = some nv := (HR5.out.bk.tail 6).trans rfl
        have hnn := HR5.out.ne
        rw [hm] at hnb hpc5 hpl'
        have Hm := Lib.hid hm
        have Hrd2 := Lib.hid hrd2
        obtain ⟨q, rfl⟩ : ∃ q, pc_ = q + 1 := ⟨pc_ - 1, by omega⟩
        clear hrd hrd2 hm
        rcases Nat.eq_zero_or_pos q with rfl | hq
        · obtain rfl : m = 0 := by omega
          have hre : rest = [] := List.eq_nil_of_length_eq_zero Hm.out
          have hRd : RdU W5 B (some ⟨pb, po, none⟩) rest.length rest := by subst hre; exact Rd.nil _ _ _ _
          have HRd := Lib.hid hRd
          clear hre hRd
          have hr6 : RunIn (W5.setCell ⟨g, 22, none⟩ (.slice (some ⟨pb, po, none⟩) 0 0)) B NB g args maxw { r' with pick := rest } sb mb n (some ⟨pb, po, none⟩) 0 nv := by
            have h := HR5.out.pickTo HPk.out (pA' := some ⟨pb, po, none⟩) (pc' := 0) HRd.out (by rw [Hm.out]; omega)
            rw [Hm.out] at h
            exact h
          obtain ⟨W6, hW6⟩ : ∃ W6, W5.setCell ⟨g, 22, none⟩ (.slice (some ⟨pb, po, none⟩) 0 0) = W6 := ⟨_, rfl⟩
          have HG6 : Hid (W5.grownBy W6 (some g)) := by show World.grownBy _ _ _; rw [← hW6]; exact grown_set _ _ _ _
          have HW6 := Lib.hid hW6
          rw [hW6] at hr6
          have HR6 := Lib.hid hr6
          have hnN : n < maxLen := by unfold maxLen; omega
          have HRN : Hid (r'.news.length ≤ 1000000000) := by rw [HS.out.2.2.1]; exact hnl
          clear hr6 hW6
          go_upto_region 11 with fail
          rw [HW6.out]
          have jS : W6.cell? ⟨g, 0, none⟩ = some (.pointer (some ⟨sb, 0, none⟩)) := (HR6.out.bk.bk.cell 0).trans rfl
          have jM : W6.cell? ⟨sb, 16, none⟩ = some (.map (some mb)) := HR6.out.st.map HR6.out.roots
          clear kS kM k22 f22 k27 hnn
          go_wp2_with (at_mapUpdate; refine wpList_store_blk _ (by rfl) (.tmp 63) (.tmp 64) (.tmp 65) 96 (by rfl) 31 91 Try.underlying31 Try.underlying96 mb n r'.st.blocks (by rfl) HR6.out.map hnN x (by rfl) HUX.out zero8 (by rfl) rfl ?_)
          intro W7 hown7 hg7
          have hr7 : RunIn W7 B NB g args maxw { { r' with pick := rest } with st := { r'.st with blocks := upd r'.st.blocks x (some zero8) } } sb mb (n + 1) (some ⟨pb, po, none⟩) 0 nv := HR6.out.maps hg7 hown7 (by show n + 1 + rest.length ≤ NB; rw [Hm.out]; omega)
          have HR7 := Lib.hid hr7
          have HG7 := Lib.hid hg7
          have k27 : W7.cell? ⟨g, 27, none⟩ = some nv := (HR7.out.bk.tail 6).trans rfl
          have hlt7 := HR7.out.lt
          obtain ⟨ltg, lts, ltm⟩ := hlt7
          have RN : Hid (Rd (W7.alloc (.cells #[.int .u64 x] 31)) (W7.heap.size + 1) 1 (some ⟨W7.heap.size, 0, none⟩) 1 [.int .u64 x]) := Rd.newAt W7 _ _ _ rfl (size := 1) (m := 1) rfl (by simp [maxLen])
          have hr7n := HRN.out
          have hbs7 : B ≤ (W7.alloc (.cells #[.int .u64 x] 31)).heap.size := by rw [World.size_alloc]; have := HR7.out.pos; omega
          clear hown7 hg7 hr7 jS jM
          go_wp2_with (at_builtin; refine wpList_app _ (by rfl) (.tmp 71) (.tmp 73) 34 (by rfl) B 31 i0 _ 1 8 Try.underlying34 hi0 hy0 hy1 hy2 rfl (by decide) nv r'.news.length (u64s r'.news) (by rfl) (HR7.out.news.alloc _) (W7.heap.size + 1) (some ⟨W7.heap.size, 0, none⟩) 1 1 [.int .u64 x] (by rfl) RN.out (by intro u hu; simp at hu; subst hu; rfl) (by unfold maxLen; omega) (by omega) hbs7 ?_)
          intro v9 w9 hown9 hg9 _
          obtain ⟨A9, c9, hv9, _, _⟩ := Rd.of_own_cap hown9
          subst hv9
          have HRa := Lib.hid (HR7.out.more (World.grownBy_alloc W7 (.cells #[.int .u64 x] 31) none))
          have HG9 := Lib.hid hg9
          have hr10 := HRa.out.newsTo hg9 hown9
          have HR10 := Lib.hid hr10
          have h27 : w9.cell? ⟨g, 27, none⟩ = some nv := ((HRa.out.bk.grown hg9 HRa.out.ne.2.2.2.1).tail 6).trans rfl
          have f27 := (HRa.out.bk.grown hg9 HRa.out.ne.2.2.2.1).bk.frozen 27
          have hI9 : Bk w9 w.heap.size 62 #[.int .i64 15, .int .i64 a, .int .i64 b, .int .i64 c, .int .u64 imm] := by
            have h1 := ((HI4.out.grown HG5.out (by simp)).grown HG6.out (fun e => HNg.out (Option.some.inj e)))
            have h2 := h1.grown HG7.out (fun e => HNm.out (Option.some.inj e))
            have h3 := h2.alloc (.cells #[.int .u64 x] 31)
            exact h3.grown HG9.out (h3.ne_own HRa.out.news (by decide))
          have HI9 := Lib.hid hI9
          clear hown9 hg9 hr10 hI9 k27 RN hr7n hbs7 ltg lts ltm
          obtain ⟨W10, hW10⟩ : ∃ W10, w9.setCell ⟨g, 27, none⟩ (.slice A9 (r'.news.length + 1) c9) = W10 := ⟨_, rfl⟩
          have HG10 : Hid (w9.grownBy W10 (some g)) := by show World.grownBy _ _ _; rw [← hW10]; exact grown_set _ _ _ _
          have HW10 := Lib.hid hW10
          rw [hW10] at HR10
          clear hW10
          go_upto_region 13 with fail
          rw [HW10.out]
          have p1 : W10.cell? ⟨w.heap.size, 1, none⟩ = some (.int .i64 a) := ((HI9.out.grown HG10.out (fun e => HNg.out (Option.some.inj e))).cell 1).trans rfl
          have pR : W10.cell? ⟨g, 5 + a, none⟩ = some (.int .u64 (r'.regs.getD a 0)) := HR10.out.bk.reg ha16
          have fR := HR10.out.bk.bk.frozen (5 + a)
          obtain ⟨Y, hY⟩ : ∃ Y, r'.regs.getD a 0 = Y := ⟨_, rfl⟩
          rw [hY] at pR
          clear hY h27 f27
          go_still_tail 7, (by kernel_rfl)
          go_wp2
          go_ret
          rw [HE.out, ← HS.out.1, ← HS.out.2.1, ← HS.out.2.2.1]
          have hfin := (HR10.out.putReg ha16 x).more (grown_drew _ _)
          have hB : Below B w (W10.setCell ⟨g, 5 + a, none⟩ (.int .u64 x)).drew :=
            HB4.out.trans (((Below.refl B W4).grown HG5.out HR4.out.pos (by simp)).trans (((Below.refl B W5).grown HG6.out HR5.out.pos (fun k hk => by cases hk; exact HR5.out.bg)).trans (((Below.refl B W6).grown HG7.out HR6.out.pos (fun k hk => by cases hk; exact HR6.out.bm)).trans (((Below.refl B W7).grown (World.grownBy_alloc W7 (.cells #[.int .u64 x] 31) none) HR7.out.pos (by simp)).trans (((Below.refl B _).grown HG9.out HRa.out.pos (fun k hk => (HRa.out.news.lt k hk).1)).trans (((Below.refl B w9).grown HG10.out (Nat.le_trans HRa.out.pos HG9.out.size) (fun k hk => by cases hk; exact HR10.out.bg)).trans ((Below.refl B W10).grown ((grown_set _ _ _ _).trans (grown_drew _ _)) HR10.out.pos (fun k hk => by cases hk; exact HR10.out.bg))))))))
          exact DoPost2.mk rfl hfin hB
        · 
          have hr6 : RunIn (W5.setCell ⟨g, 22, none⟩ (.slice (some ⟨pb, po + 1, none⟩) m q)) B NB g args maxw { r' with pick := rest } sb mb n (some ⟨pb, po + 1, none⟩) q nv := by
            have h := HR5.out.pickTo HPk.out (pA' := some ⟨pb, po + 1, none⟩) (pc' := q) Hrd2.out (by rw [Hm.out]; omega)
            rw [Hm.out] at h
            exact h
          obtain ⟨W6, hW6⟩ : ∃ W6, W5.setCell ⟨g, 22, none⟩ (.slice (some ⟨pb, po + 1, none⟩) m q) = W6 := ⟨_, rfl⟩
          have HG6 : Hid (W5.grownBy W6 (some g)) := by show World.grownBy _ _ _; rw [← hW6]; exact grown_set _ _ _ _
          have HW6 := Lib.hid hW6
          rw [hW6] at hr6
          have HR6 := Lib.hid hr6
          have hnN : n < maxLen := by unfold maxLen; omega
          have HRN : Hid (r'.news.length ≤ 1000000000) := by rw [HS.out.2.2.1]; exact hnl
          clear hr6 hW6
          go_upto_region 11 with fail
          rw [HW6.out]
          have jS : W6.cell? ⟨g, 0, none⟩ = some (.pointer (some ⟨sb, 0, none⟩)) := (HR6.out.bk.bk.cell 0).trans rfl
          have jM : W6.cell? ⟨sb, 16, none⟩ = some (.map (some mb)) := HR6.out.st.map HR6.out.roots
          clear kS kM k22 f22 k27 hnn
          go_wp2_with (at_mapUpdate; refine wpList_store_blk _ (by rfl) (.tmp 63) (.tmp 64) (.tmp 65) 96 (by rfl) 31 91 Try.underlying31 Try.underlying96 mb n r'.st.blocks (by rfl) HR6.out.map hnN x (by rfl) HUX.out zero8 (by rfl) rfl ?_)
          intro W7 hown7 hg7
          have hr7 : RunIn W7 B NB g args maxw { { r' with pick := rest } with st := { r'.st with blocks := upd r'.st.blocks x (some zero8) } } sb mb (n + 1) (some ⟨pb, po + 1, none⟩) q nv := HR6.out.maps hg7 hown7 (by show n + 1 + rest.length ≤ NB; rw [Hm.out]; omega)
          have HR7 := Lib.hid hr7
          have HG7 := Lib.hid hg7
          have k27 : W7.cell? ⟨g, 27, none⟩ = some nv := (HR7.out.bk.tail 6).trans rfl
          have hlt7 := HR7.out.lt
          obtain ⟨ltg, lts, ltm⟩ := hlt7
          have RN : Hid (Rd (W7.alloc (.cells #[.int .u64 x] 31)) (W7.heap.size + 1) 1 (some ⟨W7.heap.size, 0, none⟩) 1 [.int .u64 x]) := Rd.newAt W7 _ _ _ rfl (size := 1) (m := 1) rfl (by simp [maxLen])
          have hr7n := HRN.out
          have hbs7 : B ≤ (W7.alloc (.cells #[.int .u64 x] 31)).heap.size := by rw [World.size_alloc]; have := HR7.out.pos; omega
          clear hown7 hg7 hr7 jS jM
          go_wp2_with (at_builtin; refine wpList_app _ (by rfl) (.tmp 71) (.tmp 73) 34 (by rfl) B 31 i0 _ 1 8 Try.underlying34 hi0 hy0 hy1 hy2 rfl (by decide) nv r'.news.length (u64s r'.news) (by rfl) (HR7.out.news.alloc _) (W7.heap.size + 1) (some ⟨W7.heap.size, 0, none⟩) 1 1 [.int .u64 x] (by rfl) RN.out (by intro u hu; simp at hu; subst hu; rfl) (by unfold maxLen; omega) (by omega) hbs7 ?_)
          intro v9 w9 hown9 hg9 _
          obtain ⟨A9, c9, hv9, _, _⟩ := Rd.of_own_cap hown9
          subst hv9
          have HRa := Lib.hid (HR7.out.more (World.grownBy_alloc W7 (.cells #[.int .u64 x] 31) none))
          have HG9 := Lib.hid hg9
          have hr10 := HRa.out.newsTo hg9 hown9
          have HR10 := Lib.hid hr10
          have h27 : w9.cell? ⟨g, 27, none⟩ = some nv := ((HRa.out.bk.grown hg9 HRa.out.ne.2.2.2.1).tail 6).trans rfl
          have f27 := (HRa.out.bk.grown hg9 HRa.out.ne.2.2.2.1).bk.frozen 27
          have hI9 : Bk w9 w.heap.size 62 #[.int .i64 15, .int .i64 a, .int .i64 b, .int .i64 c, .int .u64 imm] := by
            have h1 := ((HI4.out.grown HG5.out (by simp)).grown HG6.out (fun e => HNg.out (Option.some.inj e)))
            have h2 := h1.grown HG7.out (fun e => HNm.out (Option.some.inj e))
            have h3 := h2.alloc (.cells #[.int .u64 x] 31)
            exact h3.grown HG9.out (h3.ne_own HRa.out.news (by decide))
          have HI9 := Lib.hid hI9
          clear hown9 hg9 hr10 hI9 k27 RN hr7n hbs7 ltg lts ltm
          obtain ⟨W10, hW10⟩ : ∃ W10, w9.setCell ⟨g, 27, none⟩ (.slice A9 (r'.news.length + 1) c9) = W10 := ⟨_, rfl⟩
          have HG10 : Hid (w9.grownBy W10 (some g)) := by show World.grownBy _ _ _; rw [← hW10]; exact grown_set _ _ _ _
          have HW10 := Lib.hid hW10
          rw [hW10] at HR10
          clear hW10
          go_upto_region 13 with fail
          rw [HW10.out]
          have p1 : W10.cell? ⟨w.heap.size, 1, none⟩ = some (.int .i64 a) := ((HI9.out.grown HG10.out (fun e => HNg.out (Option.some.inj e))).cell 1).trans rfl
          have pR : W10.cell? ⟨g, 5 + a, none⟩ = some (.int .u64 (r'.regs.getD a 0)) := HR10.out.bk.reg ha16
          have fR := HR10.out.bk.bk.frozen (5 + a)
          obtain ⟨Y, hY⟩ : ∃ Y, r'.regs.getD a 0 = Y := ⟨_, rfl⟩
          rw [hY] at pR
          clear hY h27 f27
          go_still_tail 7, (by kernel_rfl)
          go_wp2
          go_ret
          rw [HE.out, ← HS.out.1, ← HS.out.2.1, ← HS.out.2.2.1]
          have hfin := (HR10.out.putReg ha16 x).more (grown_drew _ _)
          have hB : Below B w (W10.setCell ⟨g, 5 + a, none⟩ (.int .u64 x)).drew :=
            HB4.out.trans (((Below.refl B W4).grown HG5.out HR4.out.pos (by simp)).trans (((Below.refl B W5).grown HG6.out HR5.out.pos (fun k hk => by cases hk; exact HR5.out.bg)).trans (((Below.refl B W6).grown HG7.out HR6.out.pos (fun k hk => by cases hk; exact HR6.out.bm)).trans (((Below.refl B W7).grown (World.grownBy_alloc W7 (.cells #[.int .u64 x] 31) none) HR7.out.pos (by simp)).trans (((Below.refl B _).grown HG9.out HRa.out.pos (fun k hk => (HRa.out.news.lt k hk).1)).trans (((Below.refl B w9).grown HG10.out (Nat.le_trans HRa.out.pos HG9.out.size) (fun k hk => by cases hk; exact HR10.out.bg)).trans ((Below.refl B W10).grown ((grown_set _ _ _ _).trans (grown_drew _ _)) HR10.out.pos (fun k hk => by cases hk; exact HR10.out.bg))))))))
          exact DoPost2.mk rfl hfin hB
end Go.Proofs.Ytjggmimaolddkaa

namespace Go.Proofs.Ytjggmimaolddkaa
open Go.RowKit
set_option linter.unusedVariables false

section
variable {w : World} {B NB g : Nat} {args : List Int} {maxw : Int} {r : MRun} {sb mb n : Nat} {pA : Option Addr} {pc_ : Nat} {nv : Value}
theorem RunIn.setPc (h : RunIn w B NB g args maxw r sb mb n pA pc_ nv) (x : Int) : RunIn (w.setCell ⟨g, 28, none⟩ (.int .i64 x)) B NB g args maxw { r with pc := x } sb mb n pA pc_ nv :=
  h.self (r' := { r with pc := x }) (grown_set _ _ _ _) (h.bk.setAny (RC.set_pc h.bk.2.1 h.bk.2.2 x) h.bk.2.1 h.bk.2.2) rfl rfl rfl
theorem RunIn.setVal (h : RunIn w B NB g args maxw r sb mb n pA pc_ nv) (x : Int) : RunIn (w.setCell ⟨g, 24, none⟩ (.int .u64 x)) B NB g args maxw { r with val := x } sb mb n pA pc_ nv :=
  h.self (r' := { r with val := x }) (grown_set _ _ _ _) (h.bk.setAny (RC.set_val h.bk.2.1 h.bk.2.2 x) h.bk.2.1 h.bk.2.2) rfl rfl rfl
theorem RunIn.setEnded (h : RunIn w B NB g args maxw r sb mb n pA pc_ nv) (x : Bool) : RunIn (w.setCell ⟨g, 29, none⟩ (.bool x)) B NB g args maxw { r with ended := x } sb mb n pA pc_ nv :=
  h.self (r' := { r with ended := x }) (grown_set _ _ _ _) (h.bk.setAny (RC.set_ended h.bk.2.1 h.bk.2.2 x) h.bk.2.1 h.bk.2.2) rfl rfl rfl
end
theorem DoPost2.of_root {B NB g : Nat} {args : List Int} {maxw : Int} {p : Int × MRun} {w : World} {e : Ending} {w' : World} (h : DoPost B NB g args maxw p w e w') : DoPost2 B NB g args maxw p w e w' := by
  obtain ⟨h1, ⟨sb, mb, n, pA, pc_, nv, h2⟩, h3⟩ := h
  exact ⟨h1, ⟨_, _, _, _, _, _, h2.wide (Nat.le_succ _)⟩, h3⟩
theorem sixteen {l : List Int} (h : l.length = 16) : ∃ z0 z1 z2 z3 z4 z5 z6 z7 z8 z9 z10 z11 z12 z13 z14 z15, l = [z0, z1, z2, z3, z4, z5, z6, z7, z8, z9, z10, z11, z12, z13, z14, z15] := by
  match l, h with
  | [z0, z1, z2, z3, z4, z5, z6, z7, z8, z9, z10, z11, z12, z13, z14, z15], _ => exact ⟨z0, z1, z2, z3, z4, z5, z6, z7, z8, z9, z10, z11, z12, z13, z14, z15, rfl⟩
theorem four {l : List Int} (h : l.length = 4) : ∃ y0 y1 y2 y3, l = [y0, y1, y2, y3] := by
  match l, h with
  | [y0, y1, y2, y3], _ => exact ⟨y0, y1, y2, y3, rfl⟩
theorem regAt {w : World} {g sb : Nat} {args : List Int} {maxw : Int} {pv nv : Value} {r : MRun} (h : BkR w g (rc sb args maxw pv nv r)) {l : List Int} (hl : r.regs = l) (k : Nat) {z : Int} (hz : l[k]? = some z) : w.cell? ⟨g, 5 + k, none⟩ = some (.int .u64 z) := by
  have hk : k < r.regs.length := by rw [hl]; exact (List.getElem?_eq_some_iff.1 hz).1
  have := h.reg (k := k) (by have := h.2.2; show k < 16; rw [← this]; exact hk)
  rw [this]
  show some (Value.int .u64 (r.regs.getD k 0)) = _
  rw [hl, List.getD_eq_getElem?_getD, hz]; rfl
theorem argAt {w : World} {g sb : Nat} {args : List Int} {maxw : Int} {pv nv : Value} {r : MRun} (h : BkR w g (rc sb args maxw pv nv r)) {l : List Int} (hl : args = l) (k : Nat) {z : Int} (hz : l[k]? = some z) : w.cell? ⟨g, 1 + k, none⟩ = some (.int .u64 z) := by
  have hk : k < 4 := by have := h.2.1; have h4 : args.length = 4 := this; rw [hl] at h4; rw [← h4]; exact (List.getElem?_eq_some_iff.1 hz).1
  have h1 := h.bk.cell (1 + k)
  rw [h1, List.getElem?_toArray, RC.at_arg h.2.1 hk]
  show some (Value.int .u64 (args.getD k 0)) = _
  rw [hl, List.getD_eq_getElem?_getD, hz]; rfl
/-- An instruction that may be done. -/
structure InsOk (i : Ins) : Prop where
  regs : RegsOk i
  op : 0 ≤ i.op ∧ i.op ≤ 21
  imm : U64 i.imm
  arg : i.op = 8 → i.imm < 4
  goes : 17 ≤ i.op → i.op ≤ 19 → i.imm ≤ 256

set_option maxRecDepth 100000 in
set_option maxHeartbeats 16000000 in
theorem step_any (B NB g : Nat) (args : List Int) (maxw : Int) (i : Ins) (r : MRun) (sb mb n : Nat) (pA : Option Addr) (pc_ : Nat) (nv : Value) (w : World) (h : RunIn w B NB g args maxw r sb mb n pA pc_ nv) (hok : ROk maxw r) (hi : InsOk i) (hNB : NB < 1000000000000) (hnl : r.news.length ≤ 1000000000) (hpl : r.pick.length ≤ 1000000000) (hpc : 0 ≤ r.pc ∧ r.pc ≤ 1000) :
    Calls Try.prog 40 #[.pointer (some ⟨g, 0, none⟩), i.v] w (DoPost2 B NB g args maxw (stepP args maxw i r) w) := by
  obtain ⟨op, ia, ib, ic, imm⟩ := i
  have HIO := Lib.hid hi
  obtain ⟨⟨⟨a0, a1⟩, ⟨b0, b1⟩, ⟨c0, c1⟩⟩, ⟨o0, o1⟩, him, harg, hgoes⟩ := hi
  simp only at a0 a1 b0 b1 c0 c1 o0 o1 him harg hgoes
  obtain ⟨a, rfl⟩ : ∃ a : Nat, ia = (a : Int) := ⟨ia.toNat, by omega⟩
  obtain ⟨b, rfl⟩ : ∃ b : Nat, ib = (b : Int) := ⟨ib.toNat, by omega⟩
  obtain ⟨c, rfl⟩ : ∃ c : Nat, ic = (c : Int) := ⟨ic.toNat, by omega⟩
  have ha16 : a < 16 := by omega
  obtain ⟨W1, hW1⟩ : ∃ W1, w.alloc (.cells #[.int .i64 op, .int .i64 a, .int .i64 b, .int .i64 c, .int .u64 imm] 62) = W1 := ⟨_, rfl⟩
  have HG1 : Hid (w.grownBy W1 none) := by show World.grownBy _ _ _; rw [← hW1]; exact World.grownBy_alloc _ _ _
  have hI : Bk W1 w.heap.size 62 #[.int .i64 op, .int .i64 a, .int .i64 b, .int .i64 c, .int .u64 imm] := by rw [← hW1]; exact Bk.new w _ _
  have HP := Lib.hid h.pos
  have HNg : Hid (g ≠ w.heap.size) := fun e => by have := h.lt.1; omega
  have HR1 := Lib.hid (h.more HG1.out)
  have HW1 := Lib.hid hW1
  obtain ⟨p, hp⟩ : ∃ p, r.pc = p := ⟨_, rfl⟩
  have k28 : W1.cell? ⟨g, 28, none⟩ = some (.int .i64 p) := by rw [← hp]; exact (HR1.out.bk.tail 7).trans rfl
  have f28 := HR1.out.bk.bk.frozen 28
  have hr2 := HR1.out.setPc (r.pc + 1)
  rw [hp] at hr2 hpc
  obtain ⟨r2, hr2e⟩ : ∃ r2 : MRun, { r with pc := p + 1 } = r2 := ⟨_, rfl⟩
  have HSt : Hid (stepP args maxw ⟨op, a, b, c, imm⟩ r = doP args maxw ⟨op, a, b, c, imm⟩ r2) := by show _ = _; rw [stepP, hp, hr2e]
  rw [hr2e] at hr2
  have HK : Hid (ROk maxw r2) := by
    show ROk maxw r2
    rw [← hr2e]; exact ⟨hok.regs, hok.roots, hok.blocks, hok.pick, hok.w0, hok.w1, hok.mw⟩
  have HL : Hid (r2.news.length ≤ 1000000000 ∧ r2.pick.length ≤ 1000000000) := by
    show _ ∧ _
    rw [← hr2e]; exact ⟨hnl, hpl⟩
  obtain ⟨W2, hW2⟩ : ∃ W2, W1.setCell ⟨g, 28, none⟩ (.int .i64 (p + 1)) = W2 := ⟨_, rfl⟩
  have HG2 : Hid (W1.grownBy W2 (some g)) := by show World.grownBy _ _ _; rw [← hW2]; exact grown_set _ _ _ _
  have HW2 := Lib.hid hW2
  rw [hW2] at hr2
  have HR := Lib.hid hr2
  have HB2 := Lib.hid ((Below.refl B w).grown (row := some g) ((HG1.out.but _).trans HG2.out) HP.out (fun k hk => by cases hk; exact HR.out.bg))
  have HI : Hid (Bk W2 w.heap.size 62 #[.int .i64 op, .int .i64 a, .int .i64 b, .int .i64 c, .int .u64 imm]) := hI.grown HG2.out (fun e => HNg.out (Option.some.inj e))
  have q0 : W2.cell? ⟨w.heap.size, 0, none⟩ = some (.int .i64 op) := (HI.out.cell 0).trans rfl
  have q1 : W2.cell? ⟨w.heap.size, 1, none⟩ = some (.int .i64 a) := (HI.out.cell 1).trans rfl
  have q2 : W2.cell? ⟨w.heap.size, 2, none⟩ = some (.int .i64 b) := (HI.out.cell 2).trans rfl
  have q3 : W2.cell? ⟨w.heap.size, 3, none⟩ = some (.int .i64 c) := (HI.out.cell 3).trans rfl
  have q4 : W2.cell? ⟨w.heap.size, 4, none⟩ = some (.int .u64 imm) := (HI.out.cell 4).trans rfl
  obtain ⟨X, hX⟩ : ∃ X, r2.regs.getD a 0 = X := ⟨_, rfl⟩
  have kX : W2.cell? ⟨g, 5 + a, none⟩ = some (.int .u64 X) := by rw [← hX]; exact HR.out.bk.reg ha16
  have fX := HR.out.bk.bk.frozen (5 + a)
  have k28b : W2.cell? ⟨g, 28, none⟩ = some (.int .i64 r2.pc) := (HR.out.bk.tail 7).trans rfl
  have k24 : W2.cell? ⟨g, 24, none⟩ = some (.int .u64 r2.val) := (HR.out.bk.tail 3).trans rfl
  have k29 : W2.cell? ⟨g, 29, none⟩ = some (.bool r2.ended) := (HR.out.bk.tail 8).trans rfl
  have f28b := HR.out.bk.bk.frozen 28
  have f24 := HR.out.bk.bk.frozen 24
  have f29 := HR.out.bk.bk.frozen 29
  have HX : Hid (r2.reg (a : Int) = X) := hX
  have HIm := Lib.hid him
  have HAr := Lib.hid harg
  obtain ⟨i0, i1⟩ := him
  clear hW1 hI h hok hp hr2 hr2e hW2 hX hnl hpl harg
  simp only [Ins.v]
  go_enter Try.func40, Try.ntmps40
  go_upto_region 1 with fail
  rw [HW1.out]
  go_upto_region 2 with fail
  rw [HW2.out]
  clear k28 f28
  by_cases h17 : op = 17
  · subst h17
    have hg := hgoes (by decide) (by decide)
    have HE : Hid (doP args maxw ⟨17, a, b, c, imm⟩ r2 = (0, { r2 with pc := imm })) := rfl
    go_wp2
    go_ret
    rw [HSt.out, HE.out]
    exact DoPost2.mk rfl (HR.out.setPc imm) (HB2.out.setCell HR.out.bg _)
  by_cases h18 : op = 18
  · subst h18
    have hg := hgoes (by decide) (by decide)
    by_cases hz : X = 0
    · have hb : (X == 0) = true := by simpa using hz
      have hb2 : (X != 0) = false := by simpa using hz
      have HE : Hid (doP args maxw ⟨18, a, b, c, imm⟩ r2 = (0, { r2 with pc := imm })) := by
        show _ = _
        show (0, if r2.reg (a : Int) = 0 then _ else _) = _
        rw [HX.out, if_pos hz]
      clear hz
      go_wp2_with fail
      go_quiet (fail)
      go_wp2
      go_ret
      rw [HSt.out, HE.out]
      exact DoPost2.mk rfl ((HR.out.more (grown_drewN _ _ _)).setPc imm) ((HB2.out.trans ((Below.refl _ _).grown (grown_drewN _ _ none) HR.out.pos (by simp))).setCell HR.out.bg _)
    · have hb : (X == 0) = false := by simpa using hz
      have hb2 : (X != 0) = true := by simpa using hz
      have HE : Hid (doP args maxw ⟨18, a, b, c, imm⟩ r2 = (0, r2)) := by
        show _ = _
        show (0, if r2.reg (a : Int) = 0 then _ else _) = _
        rw [HX.out, if_neg hz]
      clear hz
      go_wp2_with fail
      go_quiet (fail)
      go_wp2
      go_ret
      rw [HSt.out, HE.out]
      exact DoPost2.mk rfl (HR.out.more (grown_drewN _ _ _)) (HB2.out.trans ((Below.refl _ _).grown (grown_drewN _ _ none) HR.out.pos (by simp)))
  by_cases h19 : op = 19
  · subst h19
    have hg := hgoes (by decide) (by decide)
    by_cases hz : X = 0
    · have hb : (X == 0) = true := by simpa using hz
      have hb2 : (X != 0) = false := by simpa using hz
      have HE : Hid (doP args maxw ⟨19, a, b, c, imm⟩ r2 = (0, r2)) := by
        show _ = _
        show (0, if r2.reg (a : Int) = 0 then _ else _) = _
        rw [HX.out, if_pos hz]
      clear hz
      go_wp2_with fail
      go_quiet (fail)
      go_wp2
      go_ret
      rw [HSt.out, HE.out]
      exact DoPost2.mk rfl (HR.out.more (grown_drewN _ _ _)) (HB2.out.trans ((Below.refl _ _).grown (grown_drewN _ _ none) HR.out.pos (by simp)))
    · have hb : (X == 0) = false := by simpa using hz
      have hb2 : (X != 0) = true := by simpa using hz
      have HE : Hid (doP args maxw ⟨19, a, b, c, imm⟩ r2 = (0, { r2 with pc := imm })) := by
        show _ = _
        show (0, if r2.reg (a : Int) = 0 then _ else _) = _
        rw [HX.out, if_neg hz]
      clear hz
      go_wp2_with fail
      go_quiet (fail)
      go_wp2
      go_ret
      rw [HSt.out, HE.out]
      exact DoPost2.mk rfl ((HR.out.more (grown_drewN _ _ _)).setPc imm) ((HB2.out.trans ((Below.refl _ _).grown (grown_drewN _ _ none) HR.out.pos (by simp))).setCell HR.out.bg _)
  by_cases h20 : op = 20
  · subst h20
    have HE : Hid (doP args maxw ⟨20, a, b, c, imm⟩ r2 = (0, { r2 with val := X, ended := true })) := by
      show _ = _
      rw [← HX.out]; rfl
    go_wp2_with fail
    go_region
    all_goals
      go_wp2
      go_ret
      rw [HSt.out, HE.out]
      first
        | exact DoPost2.mk rfl (((HR.out.setVal X).setEnded true).more (grown_drew _ _)) (((HB2.out.setCell HR.out.bg _).setCell HR.out.bg _).trans ((Below.refl _ _).grown (grown_drew _ none) (((HR.out.setVal X).setEnded true).pos) (by simp)))
        | exact DoPost2.mk rfl (((HR.out.setEnded true).setVal X).more (grown_drew _ _)) (((HB2.out.setCell HR.out.bg _).setCell HR.out.bg _).trans ((Below.refl _ _).grown (grown_drew _ none) (((HR.out.setEnded true).setVal X).pos) (by simp)))
  by_cases h21 : op = 21
  · subst h21
    have HE : Hid (doP args maxw ⟨21, a, b, c, imm⟩ r2 = (40, { r2 with val := imm })) := rfl
    go_wp2
    go_ret
    rw [HSt.out, HE.out]
    exact DoPost2.mk rfl (HR.out.setVal imm) (HB2.out.setCell HR.out.bg _)
  by_cases h9 : op = 9
  · subst h9
    have HE : Hid (doP args maxw ⟨9, a, b, c, imm⟩ r2 = rootP maxw ⟨9, a, b, c, imm⟩ r2) := rfl
    go_wp2_with fail
    refine (root_any B NB g args maxw ⟨9, a, b, c, imm⟩ r2 sb mb n pA pc_ nv _ HR.out HK.out HIO.out.regs (by simp)).mono ?_
    intro e W3 hp3
    have hp4 := DoPost2.of_root hp3
    obtain ⟨rfl, hr3, hb3⟩ := hp4
    have HR3 := Lib.hid hr3
    have HB3 := Lib.hid (HB2.out.trans hb3)
    clear hp3 hr3 hb3
    go_wp2
    go_ret
    rw [HSt.out, HE.out]
    exact ⟨rfl, HR3.out, HB3.out⟩
  by_cases h10 : op = 10
  · subst h10
    have HE : Hid (doP args maxw ⟨10, a, b, c, imm⟩ r2 = rootP maxw ⟨10, a, b, c, imm⟩ r2) := rfl
    go_wp2_with fail
    refine (root_any B NB g args maxw ⟨10, a, b, c, imm⟩ r2 sb mb n pA pc_ nv _ HR.out HK.out HIO.out.regs (by simp)).mono ?_
    intro e W3 hp3
    have hp4 := DoPost2.of_root hp3
    obtain ⟨rfl, hr3, hb3⟩ := hp4
    have HR3 := Lib.hid hr3
    have HB3 := Lib.hid (HB2.out.trans hb3)
    clear hp3 hr3 hb3
    go_wp2
    go_ret
    rw [HSt.out, HE.out]
    exact ⟨rfl, HR3.out, HB3.out⟩
  by_cases h11 : op = 11
  · subst h11
    have HE : Hid (doP args maxw ⟨11, a, b, c, imm⟩ r2 = wordP maxw ⟨11, a, b, c, imm⟩ r2) := rfl
    go_wp2_with fail
    refine (word_any B NB g args maxw ⟨11, a, b, c, imm⟩ r2 sb mb n pA pc_ nv _ HR.out HK.out HIO.out.regs HIm.out hNB (by simp)).mono ?_
    intro e W3 hp3
    have hp4 := hp3
    obtain ⟨rfl, hr3, hb3⟩ := hp4
    have HR3 := Lib.hid hr3
    have HB3 := Lib.hid (HB2.out.trans hb3)
    clear hp3 hr3 hb3
    go_wp2
    go_ret
    rw [HSt.out, HE.out]
    exact ⟨rfl, HR3.out, HB3.out⟩
  by_cases h12 : op = 12
  · subst h12
    have HE : Hid (doP args maxw ⟨12, a, b, c, imm⟩ r2 = wordP maxw ⟨12, a, b, c, imm⟩ r2) := rfl
    go_wp2_with fail
    refine (word_any B NB g args maxw ⟨12, a, b, c, imm⟩ r2 sb mb n pA pc_ nv _ HR.out HK.out HIO.out.regs HIm.out hNB (by simp)).mono ?_
    intro e W3 hp3
    have hp4 := hp3
    obtain ⟨rfl, hr3, hb3⟩ := hp4
    have HR3 := Lib.hid hr3
    have HB3 := Lib.hid (HB2.out.trans hb3)
    clear hp3 hr3 hb3
    go_wp2
    go_ret
    rw [HSt.out, HE.out]
    exact ⟨rfl, HR3.out, HB3.out⟩
  by_cases h13 : op = 13
  · subst h13
    have HE : Hid (doP args maxw ⟨13, a, b, c, imm⟩ r2 = wordP maxw ⟨13, a, b, c, imm⟩ r2) := rfl
    go_wp2_with fail
    refine (word_any B NB g args maxw ⟨13, a, b, c, imm⟩ r2 sb mb n pA pc_ nv _ HR.out HK.out HIO.out.regs HIm.out hNB (by simp)).mono ?_
    intro e W3 hp3
    have hp4 := hp3
    obtain ⟨rfl, hr3, hb3⟩ := hp4
    have HR3 := Lib.hid hr3
    have HB3 := Lib.hid (HB2.out.trans hb3)
    clear hp3 hr3 hb3
    go_wp2
    go_ret
    rw [HSt.out, HE.out]
    exact ⟨rfl, HR3.out, HB3.out⟩
  by_cases h14 : op = 14
  · subst h14
    have HE : Hid (doP args maxw ⟨14, a, b, c, imm⟩ r2 = wordP maxw ⟨14, a, b, c, imm⟩ r2) := rfl
    go_wp2_with fail
    refine (word_any B NB g args maxw ⟨14, a, b, c, imm⟩ r2 sb mb n pA pc_ nv _ HR.out HK.out HIO.out.regs HIm.out hNB (by simp)).mono ?_
    intro e W3 hp3
    have hp4 := hp3
    obtain ⟨rfl, hr3, hb3⟩ := hp4
    have HR3 := Lib.hid hr3
    have HB3 := Lib.hid (HB2.out.trans hb3)
    clear hp3 hr3 hb3
    go_wp2
    go_ret
    rw [HSt.out, HE.out]
    exact ⟨rfl, HR3.out, HB3.out⟩
  by_cases h15 : op = 15
  · subst h15
    have HE : Hid (doP args maxw ⟨15, a, b, c, imm⟩ r2 = freshP maxw ⟨15, a, b, c, imm⟩ r2) := rfl
    go_wp2_with fail
    refine (fresh_any B NB g args maxw a b c imm r2 sb mb n pA pc_ nv _ HR.out HK.out ha16 hNB HL.out.1 HL.out.2).mono ?_
    intro e W3 hp3
    have hp4 := hp3
    obtain ⟨rfl, hr3, hb3⟩ := hp4
    have HR3 := Lib.hid hr3
    have HB3 := Lib.hid (HB2.out.trans hb3)
    clear hp3 hr3 hb3
    go_wp2
    go_ret
    rw [HSt.out, HE.out]
    exact ⟨rfl, HR3.out, HB3.out⟩
  by_cases h16 : op = 16
  · subst h16
    have HE : Hid (doP args maxw ⟨16, a, b, c, imm⟩ r2 = freeP maxw ⟨16, a, b, c, imm⟩ r2) := rfl
    go_wp2_with fail
    refine (free_any B NB g args maxw a b c imm r2 sb mb n pA pc_ nv _ HR.out HK.out ha16).mono ?_
    intro e W3 hp3
    have hp4 := hp3
    obtain ⟨rfl, hr3, hb3⟩ := hp4
    have HR3 := Lib.hid hr3
    have HB3 := Lib.hid (HB2.out.trans hb3)
    clear hp3 hr3 hb3
    go_wp2
    go_ret
    rw [HSt.out, HE.out]
    exact ⟨rfl, HR3.out, HB3.out⟩
  have HE : Hid (doP args maxw ⟨op, a, b, c, imm⟩ r2 = (0, r2.put a (reckonP ⟨op, a, b, c, imm⟩ r2.regs args))) := by
    show _ = _
    rw [doP]
    simp only [h17, h18, h19, h20, h21, h9, h10, h11, h12, h13, h14, h15, h16, if_false, or_self]
  obtain ⟨z0, z1, z2, z3, z4, z5, z6, z7, z8, z9, z10, z11, z12, z13, z14, z15, hz16⟩ := sixteen HR.out.bk.2.2
  obtain ⟨y0, y1, y2, y3, hy4⟩ := four HR.out.bk.2.1
  have hz16 : r2.regs = [z0, z1, z2, z3, z4, z5, z6, z7, z8, z9, z10, z11, z12, z13, z14, z15] := hz16
  have hy4 : args = [y0, y1, y2, y3] := hy4
  have HZ := Lib.hid hz16
  have HY4 := Lib.hid hy4
  have hrk : ∀ W, Calls Try.prog 56 #[.agg #[.int .i64 op, .int .i64 a, .int .i64 b, .int .i64 c, .int .u64 imm], .agg #[.int .u64 z0, .int .u64 z1, .int .u64 z2, .int .u64 z3, .int .u64 z4, .int .u64 z5, .int .u64 z6, .int .u64 z7, .int .u64 z8, .int .u64 z9, .int .u64 z10, .int .u64 z11, .int .u64 z12, .int .u64 z13, .int .u64 z14, .int .u64 z15], .agg #[.int .u64 y0, .int .u64 y1, .int .u64 y2, .int .u64 y3]] W fun e w' => e = .returned (.int .u64 (reckonP ⟨op, a, b, c, imm⟩ r2.regs args)) ∧ W.grownBy w' none := by
    intro W
    have h := reckon_any ⟨op, a, b, c, imm⟩ r2.regs args W HR.out.bk.2.2 HR.out.bk.2.1 HK.out.regs ⟨b0, b1⟩ ⟨c0, c1⟩ (fun h8 => ⟨HIm.out.1, HAr.out h8⟩)
    rw [hz16, hy4] at h ⊢
    exact h
  obtain ⟨V, hV⟩ : ∃ V, reckonP ⟨op, a, b, c, imm⟩ r2.regs args = V := ⟨_, rfl⟩
  rw [hV] at hrk HE
  have HRk := Lib.hid hrk
  clear hz16 hy4 hV hrk kX fX k28b k24 k29 f28b f24 f29 q0 q1 q2 q3 q4
  have d0 : W2.cell? ⟨w.heap.size, 0, none⟩ = some (.int .i64 op) := (HI.out.cell 0).trans rfl
  have d1 : W2.cell? ⟨w.heap.size, 1, none⟩ = some (.int .i64 a) := (HI.out.cell 1).trans rfl
  have d2 : W2.cell? ⟨w.heap.size, 2, none⟩ = some (.int .i64 b) := (HI.out.cell 2).trans rfl
  have d3 : W2.cell? ⟨w.heap.size, 3, none⟩ = some (.int .i64 c) := (HI.out.cell 3).trans rfl
  have d4 : W2.cell? ⟨w.heap.size, 4, none⟩ = some (.int .u64 imm) := (HI.out.cell 4).trans rfl
  have d5 : W2.cell? ⟨g, 5, none⟩ = some (.int .u64 z0) := regAt HR.out.bk HZ.out 0 rfl
  have d6 : W2.cell? ⟨g, 6, none⟩ = some (.int .u64 z1) := regAt HR.out.bk HZ.out 1 rfl
  have d7 : W2.cell? ⟨g, 7, none⟩ = some (.int .u64 z2) := regAt HR.out.bk HZ.out 2 rfl
  have d8 : W2.cell? ⟨g, 8, none⟩ = some (.int .u64 z3) := regAt HR.out.bk HZ.out 3 rfl
  have d9 : W2.cell? ⟨g, 9, none⟩ = some (.int .u64 z4) := regAt HR.out.bk HZ.out 4 rfl
  have d10 : W2.cell? ⟨g, 10, none⟩ = some (.int .u64 z5) := regAt HR.out.bk HZ.out 5 rfl
  have d11 : W2.cell? ⟨g, 11, none⟩ = some (.int .u64 z6) := regAt HR.out.bk HZ.out 6 rfl
  have d12 : W2.cell? ⟨g, 12, none⟩ = some (.int .u64 z7) := regAt HR.out.bk HZ.out 7 rfl
  have d13 : W2.cell? ⟨g, 13, none⟩ = some (.int .u64 z8) := regAt HR.out.bk HZ.out 8 rfl
  have d14 : W2.cell? ⟨g, 14, none⟩ = some (.int .u64 z9) := regAt HR.out.bk HZ.out 9 rfl
  have d15 : W2.cell? ⟨g, 15, none⟩ = some (.int .u64 z10) := regAt HR.out.bk HZ.out 10 rfl
  have d16 : W2.cell? ⟨g, 16, none⟩ = some (.int .u64 z11) := regAt HR.out.bk HZ.out 11 rfl
  have d17 : W2.cell? ⟨g, 17, none⟩ = some (.int .u64 z12) := regAt HR.out.bk HZ.out 12 rfl
  have d18 : W2.cell? ⟨g, 18, none⟩ = some (.int .u64 z13) := regAt HR.out.bk HZ.out 13 rfl
  have d19 : W2.cell? ⟨g, 19, none⟩ = some (.int .u64 z14) := regAt HR.out.bk HZ.out 14 rfl
  have d20 : W2.cell? ⟨g, 20, none⟩ = some (.int .u64 z15) := regAt HR.out.bk HZ.out 15 rfl
  have d21 : W2.cell? ⟨g, 1, none⟩ = some (.int .u64 y0) := argAt HR.out.bk HY4.out 0 rfl
  have d22 : W2.cell? ⟨g, 2, none⟩ = some (.int .u64 y1) := argAt HR.out.bk HY4.out 1 rfl
  have d23 : W2.cell? ⟨g, 3, none⟩ = some (.int .u64 y2) := argAt HR.out.bk HY4.out 2 rfl
  have d24 : W2.cell? ⟨g, 4, none⟩ = some (.int .u64 y3) := argAt HR.out.bk HY4.out 3 rfl
  have HRd := Lib.hid (HR.out.more (grown_drew W2 none))
  have HId : Hid (Bk W2.drew w.heap.size 62 #[.int .i64 op, .int .i64 a, .int .i64 b, .int .i64 c, .int .u64 imm]) := HI.out.drew
  have HGd : Hid (W2.grownBy W2.drew none) := grown_drew _ _
  have e0 : W2.drew.cell? ⟨w.heap.size, 0, none⟩ = some (.int .i64 op) := (HId.out.cell 0).trans rfl
  have e1 : W2.drew.cell? ⟨w.heap.size, 1, none⟩ = some (.int .i64 a) := (HId.out.cell 1).trans rfl
  have e2 : W2.drew.cell? ⟨w.heap.size, 2, none⟩ = some (.int .i64 b) := (HId.out.cell 2).trans rfl
  have e3 : W2.drew.cell? ⟨w.heap.size, 3, none⟩ = some (.int .i64 c) := (HId.out.cell 3).trans rfl
  have e4 : W2.drew.cell? ⟨w.heap.size, 4, none⟩ = some (.int .u64 imm) := (HId.out.cell 4).trans rfl
  have e5 : W2.drew.cell? ⟨g, 5, none⟩ = some (.int .u64 z0) := regAt HRd.out.bk HZ.out 0 rfl
  have e6 : W2.drew.cell? ⟨g, 6, none⟩ = some (.int .u64 z1) := regAt HRd.out.bk HZ.out 1 rfl
  have e7 : W2.drew.cell? ⟨g, 7, none⟩ = some (.int .u64 z2) := regAt HRd.out.bk HZ.out 2 rfl
  have e8 : W2.drew.cell? ⟨g, 8, none⟩ = some (.int .u64 z3) := regAt HRd.out.bk HZ.out 3 rfl
  have e9 : W2.drew.cell? ⟨g, 9, none⟩ = some (.int .u64 z4) := regAt HRd.out.bk HZ.out 4 rfl
  have e10 : W2.drew.cell? ⟨g, 10, none⟩ = some (.int .u64 z5) := regAt HRd.out.bk HZ.out 5 rfl
  have e11 : W2.drew.cell? ⟨g, 11, none⟩ = some (.int .u64 z6) := regAt HRd.out.bk HZ.out 6 rfl
  have e12 : W2.drew.cell? ⟨g, 12, none⟩ = some (.int .u64 z7) := regAt HRd.out.bk HZ.out 7 rfl
  have e13 : W2.drew.cell? ⟨g, 13, none⟩ = some (.int .u64 z8) := regAt HRd.out.bk HZ.out 8 rfl
  have e14 : W2.drew.cell? ⟨g, 14, none⟩ = some (.int .u64 z9) := regAt HRd.out.bk HZ.out 9 rfl
  have e15 : W2.drew.cell? ⟨g, 15, none⟩ = some (.int .u64 z10) := regAt HRd.out.bk HZ.out 10 rfl
  have e16 : W2.drew.cell? ⟨g, 16, none⟩ = some (.int .u64 z11) := regAt HRd.out.bk HZ.out 11 rfl
  have e17 : W2.drew.cell? ⟨g, 17, none⟩ = some (.int .u64 z12) := regAt HRd.out.bk HZ.out 12 rfl
  have e18 : W2.drew.cell? ⟨g, 18, none⟩ = some (.int .u64 z13) := regAt HRd.out.bk HZ.out 13 rfl
  have e19 : W2.drew.cell? ⟨g, 19, none⟩ = some (.int .u64 z14) := regAt HRd.out.bk HZ.out 14 rfl
  have e20 : W2.drew.cell? ⟨g, 20, none⟩ = some (.int .u64 z15) := regAt HRd.out.bk HZ.out 15 rfl
  have e21 : W2.drew.cell? ⟨g, 1, none⟩ = some (.int .u64 y0) := argAt HRd.out.bk HY4.out 0 rfl
  have e22 : W2.drew.cell? ⟨g, 2, none⟩ = some (.int .u64 y1) := argAt HRd.out.bk HY4.out 1 rfl
  have e23 : W2.drew.cell? ⟨g, 3, none⟩ = some (.int .u64 y2) := argAt HRd.out.bk HY4.out 2 rfl
  have e24 : W2.drew.cell? ⟨g, 4, none⟩ = some (.int .u64 y3) := argAt HRd.out.bk HY4.out 3 rfl
  have kA := HRd.out.bk.reg ha16
  have fA := HRd.out.bk.bk.frozen (5 + a)
  go_wp2_with fail
  go_region_law (
      go_simp
      go_at_call 56
      refine (HRk.out _).mono ?_
      rintro e wn ⟨rfl, hgn⟩
      have HGd := Lib.hid (HGd.out.trans hgn)
      have HRd := Lib.hid (HRd.out.more hgn)
      have HId := Lib.hid (HId.out.grown hgn (by simp))
      have e0 : wn.cell? ⟨w.heap.size, 0, none⟩ = some (.int .i64 op) := (HId.out.cell 0).trans rfl
      have e1 : wn.cell? ⟨w.heap.size, 1, none⟩ = some (.int .i64 a) := (HId.out.cell 1).trans rfl
      have e2 : wn.cell? ⟨w.heap.size, 2, none⟩ = some (.int .i64 b) := (HId.out.cell 2).trans rfl
      have e3 : wn.cell? ⟨w.heap.size, 3, none⟩ = some (.int .i64 c) := (HId.out.cell 3).trans rfl
      have e4 : wn.cell? ⟨w.heap.size, 4, none⟩ = some (.int .u64 imm) := (HId.out.cell 4).trans rfl
      have e5 : wn.cell? ⟨g, 5, none⟩ = some (.int .u64 z0) := regAt HRd.out.bk HZ.out 0 rfl
      have e6 : wn.cell? ⟨g, 6, none⟩ = some (.int .u64 z1) := regAt HRd.out.bk HZ.out 1 rfl
      have e7 : wn.cell? ⟨g, 7, none⟩ = some (.int .u64 z2) := regAt HRd.out.bk HZ.out 2 rfl
      have e8 : wn.cell? ⟨g, 8, none⟩ = some (.int .u64 z3) := regAt HRd.out.bk HZ.out 3 rfl
      have e9 : wn.cell? ⟨g, 9, none⟩ = some (.int .u64 z4) := regAt HRd.out.bk HZ.out 4 rfl
      have e10 : wn.cell? ⟨g, 10, none⟩ = some (.int .u64 z5) := regAt HRd.out.bk HZ.out 5 rfl
      have e11 : wn.cell? ⟨g, 11, none⟩ = some (.int .u64 z6) := regAt HRd.out.bk HZ.out 6 rfl
      have e12 : wn.cell? ⟨g, 12, none⟩ = some (.int .u64 z7) := regAt HRd.out.bk HZ.out 7 rfl
      have e13 : wn.cell? ⟨g, 13, none⟩ = some (.int .u64 z8) := regAt HRd.out.bk HZ.out 8 rfl
      have e14 : wn.cell? ⟨g, 14, none⟩ = some (.int .u64 z9) := regAt HRd.out.bk HZ.out 9 rfl
      have e15 : wn.cell? ⟨g, 15, none⟩ = some (.int .u64 z10) := regAt HRd.out.bk HZ.out 10 rfl
      have e16 : wn.cell? ⟨g, 16, none⟩ = some (.int .u64 z11) := regAt HRd.out.bk HZ.out 11 rfl
      have e17 : wn.cell? ⟨g, 17, none⟩ = some (.int .u64 z12) := regAt HRd.out.bk HZ.out 12 rfl
      have e18 : wn.cell? ⟨g, 18, none⟩ = some (.int .u64 z13) := regAt HRd.out.bk HZ.out 13 rfl
      have e19 : wn.cell? ⟨g, 19, none⟩ = some (.int .u64 z14) := regAt HRd.out.bk HZ.out 14 rfl
      have e20 : wn.cell? ⟨g, 20, none⟩ = some (.int .u64 z15) := regAt HRd.out.bk HZ.out 15 rfl
      have e21 : wn.cell? ⟨g, 1, none⟩ = some (.int .u64 y0) := argAt HRd.out.bk HY4.out 0 rfl
      have e22 : wn.cell? ⟨g, 2, none⟩ = some (.int .u64 y1) := argAt HRd.out.bk HY4.out 1 rfl
      have e23 : wn.cell? ⟨g, 3, none⟩ = some (.int .u64 y2) := argAt HRd.out.bk HY4.out 2 rfl
      have e24 : wn.cell? ⟨g, 4, none⟩ = some (.int .u64 y3) := argAt HRd.out.bk HY4.out 3 rfl
      have kA := HRd.out.bk.reg ha16
      have fA := HRd.out.bk.bk.frozen (5 + a)
      clear hgn)
  all_goals
    go_wp2
    go_ret
    rw [HSt.out, HE.out]
    have hb := HB2.out.trans ((Below.refl _ _).grown HGd.out HR.out.pos (by simp))
    exact DoPost2.mk rfl (HRd.out.putReg ha16 V) (hb.setCell HRd.out.bg _)
end Go.Proofs.Ytjggmimaolddkaa

namespace Go.Proofs.Ytjggmimaolddkaa
open Go.RowKit
set_option linter.unusedVariables false

theorem u64_wrap (x : Int) : U64 (wrapU x) := by unfold wrapU U64; omega
theorem reckon_u64 {i : Ins} {regs args : List Int} (hr : ∀ x ∈ regs, U64 x) (ha : ∀ x ∈ args, U64 x) (hi : U64 i.imm) : U64 (reckonP i regs args) := by
  have h0 : U64 0 := ⟨by decide, by decide⟩
  have h1 : U64 1 := ⟨by decide, by decide⟩
  have hb := getD_u64 hr i.b.toNat
  have hc := getD_u64 hr i.c.toNat
  unfold reckonP
  split
  · exact hi
  split
  · exact hb
  split
  · exact u64_wrap _
  split
  · exact u64_wrap _
  split
  · exact u64_wrap _
  split
  · split
    · exact hb
    · rename_i hz
      unfold U64 at hb hc ⊢
      have h2 := Int.emod_nonneg (regs.getD i.b.toNat 0) hz
      have h3 := Int.emod_lt_of_pos (regs.getD i.b.toNat 0) (by omega : 0 < regs.getD i.c.toNat 0)
      omega
  split
  · split <;> assumption
  split
  · split <;> assumption
  split
  · exact getD_u64 ha _
  · exact h0
theorem mem_set {α : Type} {l : List α} {k : Nat} {v x : α} (h : x ∈ l.set k v) : x = v ∨ x ∈ l := by
  rcases List.mem_or_eq_of_mem_set h with h | h
  · exact .inr h
  · exact .inl h
section
variable {maxw : Int} {r r' : MRun}
theorem ROk.put (h : ROk maxw r) (k : Int) {v : Int} (hv : U64 v) : ROk maxw (r.put k v) :=
  ⟨fun x hx => by
    rcases mem_set hx with rfl | hx
    · exact hv
    · exact h.regs x hx, h.roots, h.blocks, h.pick, h.w0, h.w1, h.mw⟩
theorem ROk.reg (h : ROk maxw r) (k : Int) : U64 (r.reg k) := getD_u64 h.regs _
theorem payP_some {op : Int} (h : payP maxw op r = some r') : r' = { r with writes := r.writes + writesOf op } ∧ writesOf op ≤ maxw - r.writes := by
  unfold payP at h
  split at h
  · cases h
  · cases h; exact ⟨rfl, by omega⟩
theorem ROk.pay {op : Int} (h : ROk maxw r) (hw : r.writes ≤ 999999999000) (hp : payP maxw op r = some r') : ROk maxw r' := by
  obtain ⟨rfl, h2⟩ := payP_some hp
  have hb := writesOf_bd op
  exact ⟨h.regs, h.roots, h.blocks, h.pick, by have := h.w0; show _ ∧ r.writes + writesOf op ≤ _; simp only; omega, by show r.writes + writesOf op ≤ maxw ∨ _; omega, h.mw⟩
theorem upd_ok {f : Int → Option (List Int)} (h : ∀ y ws, f y = some ws → ∀ x ∈ ws, U64 x) {k : Int} {o : Option (List Int)} (ho : ∀ ws, o = some ws → ∀ x ∈ ws, U64 x) : ∀ y ws, upd f k o y = some ws → ∀ x ∈ ws, U64 x := by
  intro y ws hy
  unfold upd at hy
  split at hy
  · exact ho ws hy
  · exact h y ws hy
theorem root_ok {i : Ins} (h : ROk maxw r) (hw : r.writes ≤ 999999999000) : ROk maxw (rootP maxw i r).2 := by
  unfold rootP
  split
  · exact h
  split
  · exact h.put _ (getD_u64 h.roots _)
  split
  · exact h
  · rename_i r2 hp
    have h2 := h.pay hw hp
    exact ⟨h2.regs, fun x hx => by
      rcases mem_set hx with rfl | hx
      · exact h.reg _
      · exact h.roots x hx, by obtain ⟨rfl, _⟩ := payP_some hp; exact h.blocks, h2.pick, h2.w0, h2.w1, h2.mw⟩
theorem word_ok {i : Ins} (h : ROk maxw r) (hw : r.writes ≤ 999999999000) : ROk maxw (wordP maxw i r).2 := by
  unfold wordP
  split
  · exact h
  · rename_i ws hf
    split
    · exact h
    split
    · exact h.put _ (getD_u64 (h.blocks _ _ hf) _)
    split
    · exact h
    · rename_i r2 hp
      have h2 := h.pay hw hp
      exact ⟨h2.regs, by obtain ⟨rfl, _⟩ := payP_some hp; exact h.roots, upd_ok h.blocks (fun ws' e => by
        cases e
        intro x hx
        rcases mem_set hx with rfl | hx
        · exact h.reg _
        · exact h.blocks _ _ hf x hx), h2.pick, h2.w0, h2.w1, h2.mw⟩
theorem fresh_ok {i : Ins} (h : ROk maxw r) (hw : r.writes ≤ 999999999000) : ROk maxw (freshP maxw i r).2 := by
  unfold freshP
  split
  · exact h
  · rename_i r2 hp
    have h2 := h.pay hw hp
    split
    · exact h2
    · rename_i x rest hpk
      split
      · exact h2
      · have hx : U64 x := h.pick x (by rw [hpk]; simp)
        exact ⟨fun y hy => by
          rcases mem_set hy with rfl | hy
          · exact hx
          · exact h.regs y hy, by obtain ⟨rfl, _⟩ := payP_some hp; exact h.roots, upd_ok h.blocks (fun ws' e => by
          cases e
          intro y hy
          simp [zero8] at hy
          subst hy
          exact ⟨by decide, by decide⟩), fun y hy => h.pick y (by rw [hpk]; exact List.mem_cons_of_mem _ hy), h2.w0, h2.w1, h2.mw⟩
theorem free_ok {i : Ins} (h : ROk maxw r) (hw : r.writes ≤ 999999999000) : ROk maxw (freeP maxw i r).2 := by
  unfold freeP
  split
  · exact h
  · split
    · exact h
    · rename_i r2 hp
      have h2 := h.pay hw hp
      exact ⟨h2.regs, by obtain ⟨rfl, _⟩ := payP_some hp; exact h.roots, upd_ok h.blocks (fun ws' e => by cases e), h2.pick, h2.w0, h2.w1, h2.mw⟩
theorem do_ok {args : List Int} {i : Ins} (h : ROk maxw r) (hw : r.writes ≤ 999999999000) (ha : ∀ x ∈ args, U64 x) (hi : U64 i.imm) : ROk maxw (doP args maxw i r).2 := by
  unfold doP
  split
  · exact ⟨h.regs, h.roots, h.blocks, h.pick, h.w0, h.w1, h.mw⟩
  split
  · show ROk maxw (if _ then _ else _)
    split
    · exact ⟨h.regs, h.roots, h.blocks, h.pick, h.w0, h.w1, h.mw⟩
    · exact h
  split
  · show ROk maxw (if _ then _ else _)
    split
    · exact h
    · exact ⟨h.regs, h.roots, h.blocks, h.pick, h.w0, h.w1, h.mw⟩
  split
  · exact ⟨h.regs, h.roots, h.blocks, h.pick, h.w0, h.w1, h.mw⟩
  split
  · exact ⟨h.regs, h.roots, h.blocks, h.pick, h.w0, h.w1, h.mw⟩
  split
  · exact root_ok h hw
  split
  · exact word_ok h hw
  split
  · exact fresh_ok h hw
  split
  · exact free_ok h hw
  · exact h.put _ (reckon_u64 h.regs ha hi)
theorem step_ok {args : List Int} {i : Ins} (h : ROk maxw r) (hw : r.writes ≤ 999999999000) (ha : ∀ x ∈ args, U64 x) (hi : U64 i.imm) : ROk maxw (stepP args maxw i r).2 :=
  do_ok (r := { r with pc := r.pc + 1 }) ⟨h.regs, h.roots, h.blocks, h.pick, h.w0, h.w1, h.mw⟩ hw ha hi
end
end Go.Proofs.Ytjggmimaolddkaa

namespace Go.Proofs.Ytjggmimaolddkaa
open Go.RowKit
set_option linter.unusedVariables false

/-- A state, in block sb of w, all of it from block B on; at most n blocks. -/
structure StIn (w : World) (B n sb mb : Nat) (s : MSt) : Prop where
  st : BkS w sb s.roots mb
  map : OwnB w Try.prog 31 mb n s.blocks
  roots : s.roots.length = 16
  bs : B ≤ sb
  bm : B ≤ mb
def emptyS : MSt := ⟨zero16, fun _ => none⟩
def NewPost (w : World) (e : Ending) (w' : World) : Prop := ∃ sb mb, e = .returned (.pointer (some ⟨sb, 0, none⟩)) ∧ StIn w' w.heap.size 0 sb mb emptyS ∧ Below w.heap.size w w'
set_option maxRecDepth 100000 in
set_option maxHeartbeats 1000000 in
theorem mnew_any (w : World) : Calls Try.prog 20 #[] w (NewPost w) := by
  have hmm := @run_makeMap Try.prog
  go_enter Try.func20, Try.ntmps20
  go_wp2
  go_ret
  refine ⟨w.heap.size + 1, w.heap.size, by simp, ⟨?_, ?_, rfl, by omega, Nat.le_refl _⟩, ((Below.refl _ _).alloc (Nat.le_refl _) _).alloc (by simp) _⟩
  · have := Bk.new (w.alloc (.map #[] 0)) 98 (stCells zero16 w.heap.size).toArray
    have h2 : Bk ((w.alloc (.map #[] 0)).alloc (.cells (stCells zero16 w.heap.size).toArray 98)) (w.heap.size + 1) 98 (stCells zero16 w.heap.size).toArray := by simpa using this
    exact h2
  · exact (OwnB.made w Try.prog 31).alloc _
end Go.Proofs.Ytjggmimaolddkaa

namespace Go.Proofs.Ytjggmimaolddkaa
open Go.RowKit Go.Maps
set_option linter.unusedVariables false

theorem StIn.more {w w' : World} {B n sb mb : Nat} {s : MSt} (h : StIn w B n sb mb s) (hg : w.grownBy w' none) : StIn w' B n sb mb s :=
  ⟨Bk.grown h.st hg (by simp), h.map.kept hg (by simp), h.roots, h.bs, h.bm⟩
theorem StIn.rangeAt {w : World} {B n sb mb : Nat} {s : MSt} (h : StIn w B n sb mb s) : w.rangeAt sb 0 (u64s s.roots) := by
  intro j v hv
  rw [u64s, List.getElem?_map] at hv
  obtain ⟨z, hz, rfl⟩ := Option.map_eq_some_iff.1 hv
  have hj : j < s.roots.length := (List.getElem?_eq_some_iff.1 hz).1
  rw [Nat.zero_add, h.st.root hj, List.getD_eq_getElem?_getD, hz]; rfl
theorem clone_map (mb n : Nat) (f : Int → Option (List Int)) (w : World) (h : OwnB w Try.prog 31 mb n f) :
    Calls Try.prog 51 #[.map (some mb)] w fun e w' => e = .returned (.map (some w.heap.size)) ∧ OwnB w' Try.prog 31 w.heap.size n f ∧ Below w.heap.size w w' := by
  obtain ⟨D, h, hv⟩ := h
  have hcon := AnyW.maps_Clone_owns Try.cloneB 31 blkR mb n D w h
  change Calls Try.prog 51 _ _ _ at hcon
  exact hcon.mono fun e w' ⟨he, h1, _, hb⟩ => ⟨he, ⟨D, h1, hv⟩, hb⟩
def ClonePost (n : Nat) (s : MSt) (w : World) (e : Ending) (w' : World) : Prop := ∃ sb mb, e = .returned (.pointer (some ⟨sb, 0, none⟩)) ∧ StIn w' w.heap.size n sb mb s ∧ Below w.heap.size w w'
set_option maxRecDepth 100000 in
set_option maxHeartbeats 4000000 in
theorem mclone_any (B n sb mb : Nat) (s : MSt) (w : World) (h : StIn w B n sb mb s) :
    Calls Try.prog 39 #[.pointer (some ⟨sb, 0, none⟩)] w (ClonePost n s w) := by
  have HS := Lib.hid h
  obtain ⟨z0, z1, z2, z3, z4, z5, z6, z7, z8, z9, z10, z11, z12, z13, z14, z15, hz⟩ := sixteen h.roots
  have d0 : w.rangeAt sb 0 (u64s [z0, z1, z2, z3, z4, z5, z6, z7, z8, z9, z10, z11, z12, z13, z14, z15]) := by rw [← hz]; exact h.rangeAt
  have d1 := h.st.map h.roots
  have e0 : w.drew.rangeAt sb 0 (u64s [z0, z1, z2, z3, z4, z5, z6, z7, z8, z9, z10, z11, z12, z13, z14, z15]) := d0
  have e1 : w.drew.cell? ⟨sb, 16, none⟩ = some (.map (some mb)) := d1
  have HZ := Lib.hid hz
  have hcs : (Try.prog.info? 50).map (·.size) = some (u64s [z0, z1, z2, z3, z4, z5, z6, z7, z8, z9, z10, z11, z12, z13, z14, z15]).length := by kernel_rfl
  have hu52 := Try.underlying50
  have HSd : Hid (StIn w.drew B n sb mb s) := h.more (grown_drew _ _)
  have HBd : Hid (Below w.heap.size w w.drew) := (Below.refl _ _).drew
  have hzd : w.heap.size ≤ w.drew.heap.size := Nat.le_refl _
  clear h hz
  go_enter Try.func39, Try.ntmps39
  go_wp2_with fail
  go_region_held3 (fun w' => w'.rangeAt sb 0 (u64s [z0, z1, z2, z3, z4, z5, z6, z7, z8, z9, z10, z11, z12, z13, z14, z15]) ∧ w'.cell? ⟨sb, 16, none⟩ = some (.map (some mb)))
    (first | exact ⟨e0, e1⟩ | exact ⟨d0, d1⟩ | exact ⟨fun j v hv => (World.cell?_alloc_old _ _ _ (Nat.ne_of_lt (World.block_lt_of_cell? _ _ (e0 j v hv)))).trans (e0 j v hv), (World.cell?_alloc_old _ _ _ (Nat.ne_of_lt (World.block_lt_of_cell? _ _ e1))).trans e1⟩ | go_keep)
    (first
      | (go_at_call 51
         refine (clone_map mb n s.blocks _ HSd.out.map).mono ?_
         rintro e wn ⟨rfl, hon, hbn⟩
         have HOn := Lib.hid hon
         have HSd := Lib.hid (HSd.out.more ⟨hbn.os, hbn.tape, hbn.output, hbn.size, fun k hk _ => hbn.block k hk⟩)
         have HBd := Lib.hid (HBd.out.trans (hbn.mono hzd))
         have e0 : wn.rangeAt sb 0 (u64s [z0, z1, z2, z3, z4, z5, z6, z7, z8, z9, z10, z11, z12, z13, z14, z15]) := by rw [← HZ.out]; exact HSd.out.rangeAt
         have e1 : wn.cell? ⟨sb, 16, none⟩ = some (.map (some mb)) := HSd.out.st.map HSd.out.roots
         clear hbn hon))
  all_goals
    go_wp2
    go_ret
    have hbs := HBd.out.size
    refine ⟨wn.heap.size, w.heap.size, rfl, ⟨?_, HOn.out.alloc _, HS.out.roots, hbs, Nat.le_refl _⟩, HBd.out.alloc hbs _⟩
    show Bk _ _ _ _
    rw [stCells, HZ.out]
    exact Bk.new _ _ _
end Go.Proofs.Ytjggmimaolddkaa

namespace Go.Proofs.Ytjggmimaolddkaa
open Go.RowKit
set_option linter.unusedVariables false

theorem own_newAt (w : World) (cs : Array Value) (t : TypeId) (g : Nat) (hg : g = w.heap.size) {size m base : Nat} (hs : cs.size = m * size) (hm : m ≤ maxLen) (hb : base ≤ w.heap.size) :
    (w.alloc (.cells cs t)).ownsRow base t size (.slice (some ⟨g, 0, none⟩) m m) m cs.toList := by
  subst hg; exact own_new w cs t hs hm hb

/-- Where an instruction may go on. -/
def nextP (i : Ins) (k : Nat) : List Int := if endsB i.op then [] else if i.op = 17 then [i.imm] else if i.op = 18 ∨ i.op = 19 then [(k : Int) + 1, i.imm] else [(k : Int) + 1]
def ints (l : List Int) : List Value := l.map (Value.int .i64)
theorem ints_one (l : List Int) : ∀ u ∈ ints l, u.oneCell' = true := by
  intro u hu
  obtain ⟨x, _, rfl⟩ := List.mem_map.1 hu
  rfl
theorem ints_append (l r : List Int) : ints (l ++ r) = ints l ++ ints r := by simp [ints]
theorem ints_length (l : List Int) : (ints l).length = l.length := by simp [ints]

end Go.Proofs.Ytjggmimaolddkaa

namespace Go.Proofs.Ytjggmimaolddkaa
open Go.RowKit
set_option linter.unusedVariables false

end Go.Proofs.Ytjggmimaolddkaa
