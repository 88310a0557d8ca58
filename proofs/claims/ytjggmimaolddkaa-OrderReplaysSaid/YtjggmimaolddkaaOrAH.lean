import Derived.Test.YtjggmimaolddkaaOrAG
namespace Go.Proofs.Ytjggmimaolddkaa
open Go.RowKit
set_option linter.unusedVariables false
theorem info_u64 : (Try.prog.info? 31).map (fun i => (i.zero, i.size, i.bytes)) = some (some (.int .u64 0), 1, 8) := by kernel_rfl
set_option maxRecDepth 100000 in
set_option maxHeartbeats 8000000 in
theorem free_any (B NB g : Nat) (args : List Int) (maxw : Int) (a b c : Nat) (imm : Int) (r : MRun) (sb mb n : Nat) (pA : Option Addr) (pc_ : Nat) (nv : Value) (w : World) (h : RunIn w B NB g args maxw r sb mb n pA pc_ nv) (hok : ROk maxw r) (ha16 : a < 16) :
 Calls Try.prog 55 #[.pointer (some ⟨g, 0, none⟩), .agg #[.int .i64 16, .int .i64 a, .int .i64 b, .int .i64 c, .int .u64 imm]] w (DoPost2 B NB g args maxw (freeP maxw ⟨16, a, b, c, imm⟩ r) w) := by
 obtain ⟨W1, hW1⟩ : ∃ W1, w.alloc (.cells #[.int .i64 16, .int .i64 a, .int .i64 b, .int .i64 c, .int .u64 imm] 62) = W1 := ⟨_, rfl⟩
 have HG1 : Hid (w.grownBy W1 none) := by show World.grownBy _ _ _; rw [← hW1]; exact World.grownBy_alloc _ _ _
 have hI : Bk W1 w.heap.size 62 #[.int .i64 16, .int .i64 a, .int .i64 b, .int .i64 c, .int .u64 imm] := by rw [← hW1]; exact Bk.new w _ _
 have HP := Lib.hid h.pos
 have HNg : Hid (g ≠ w.heap.size) := fun e => by have := h.lt.1; omega
 have HNm : Hid (mb ≠ w.heap.size) := fun e => by have := h.lt.2.2; omega
 have HR := Lib.hid (h.more HG1.out)
 have HI := Lib.hid hI
 have HW1 := Lib.hid hW1
 have HK := Lib.hid hok
 have q0 : W1.cell? ⟨w.heap.size, 0, none⟩ = some (.int .i64 16) := (hI.cell 0).trans rfl
 have q1 : W1.cell? ⟨w.heap.size, 1, none⟩ = some (.int .i64 a) := (hI.cell 1).trans rfl
 have ai : (a : Int) < 16 := by omega
 obtain ⟨X, hX⟩ : ∃ X, r.regs.getD a 0 = X := ⟨_, rfl⟩
 have HUX : Hid (U64 X) := by show U64 X; rw [← hX]; exact getD_u64 hok.regs a
 have kX : W1.cell? ⟨g, 5 + a, none⟩ = some (.int .u64 X) := by rw [← hX]; exact HR.out.bk.reg ha16
 have HX : Hid (r.reg (a : Int) = X) := hX
 clear hW1 hI hX h hok
 go_enter Try.func55, Try.ntmps55
 go_wp2_with fail
 rw [HW1.out]
 go_quiet (fail)
 generalize hW2 : World.drewN _ _ = W2
 have HG2 : Hid (W1.grownBy W2 none) := by show World.grownBy _ _ _; rw [← hW2]; exact grown_drewN _ _ _
 clear hW2 kX q0 q1
 have HR2 := Lib.hid (HR.out.more HG2.out)
 have HGw := Lib.hid (HG1.out.trans HG2.out)
 have hI2 := HI.out.grown HG2.out (by simp)
 have q0 : W2.cell? ⟨w.heap.size, 0, none⟩ = some (.int .i64 16) := (hI2.cell 0).trans rfl
 have kS : W2.cell? ⟨g, 0, none⟩ = some (.pointer (some ⟨sb, 0, none⟩)) := (HR2.out.bk.bk.cell 0).trans rfl
 have kM : W2.cell? ⟨sb, 16, none⟩ = some (.map (some mb)) := HR2.out.st.map HR2.out.roots
 have hlk := HR2.out.map.look (t := 96) (e := 91) Try.underlying31 Try.underlying96 (zero_blk _) HUX.out
 have HI2 := Lib.hid hI2
 clear hI2
 cases hf : r.st.blocks X with
 | none =>
   rw [hf] at hlk
   simp only [Option.getD_none, Option.isSome_none, blkV, zero8, List.map_cons, List.map_nil] at hlk
   have HE : Hid (freeP maxw ⟨16, a, b, c, imm⟩ r = (44, r)) := by
    show _ = _
    rw [freeP, HX.out, hf]
   clear hf
   go_wp2
   go_ret
   rw [HE.out]
   exact DoPost2.mk rfl (HR2.out.more (World.grownBy_alloc _ _ _)) ((Below.refl _ _).grown (HGw.out.trans (World.grownBy_alloc _ _ none)) HP.out (by simp))
 | some ws =>
   rw [hf] at hlk
   have h8 := HR2.out.map.words HUX.out hf
   obtain ⟨x0, x1, x2, x3, x4, x5, x6, x7, hws⟩ := eight h8
   subst hws
   simp only [Option.getD_some, Option.isSome_some, blkV, List.map_cons, List.map_nil] at hlk
   have HF := Lib.hid hf
   clear hf
   obtain ⟨W3, hW3⟩ : ∃ W3, W2.alloc (.cells #[.int .u64 x0, .int .u64 x1, .int .u64 x2, .int .u64 x3, .int .u64 x4, .int .u64 x5, .int .u64 x6, .int .u64 x7] 91) = W3 := ⟨_, rfl⟩
   have HG3 : Hid (W2.grownBy W3 none) := by show World.grownBy _ _ _; rw [← hW3]; exact World.grownBy_alloc _ _ _
   have HR3 := Lib.hid (HR2.out.more HG3.out)
   have HI3 := Lib.hid (HI2.out.grown HG3.out (by simp))
   have HGv := Lib.hid (HGw.out.trans HG3.out)
   have HW3 := Lib.hid hW3
   clear hW3
   go_upto_region 5 with fail
   rw [HW3.out]
   have p0 : W3.cell? ⟨w.heap.size, 0, none⟩ = some (.int .i64 16) := (HI3.out.cell 0).trans rfl
   clear kS kM q0 hlk
   go_wp2_with fail
   refine (payIn_any B NB g args maxw 16 r sb mb n pA pc_ nv _ HR3.out HK.out).mono ?_
   intro e W4 hp
   obtain ⟨hp | hp, hg⟩ := hp
   ·obtain ⟨hpay, rfl, hr4⟩ := hp
    have HE : Hid (freeP maxw ⟨16, a, b, c, imm⟩ r = (42, r)) := by
     show _ = _
     rw [freeP, HX.out, HF.out]
     simp only [hpay]
    have HG4 : Hid (w.grownBy W4 (some g)) := (HGv.out.but _).trans hg
    have HR4 := Lib.hid hr4
    clear hg hr4 hpay
    go_wp2
    go_ret
    rw [HE.out]
    exact DoPost2.mk rfl HR4.out ((Below.refl _ _).grown HG4.out HP.out (fun k hk => by cases hk; exact HR4.out.bg))
   ·obtain ⟨r', hpay, es, er, en, ep, rfl, hr4⟩ := hp
    have HE : Hid (freeP maxw ⟨16, a, b, c, imm⟩ r = (0, { r' with st := { r.st with blocks := upd r.st.blocks X none } })) := by
     show _ = _
     rw [freeP, HX.out, HF.out]
     simp only [hpay]
    have HR4 := Lib.hid hr4
    have HG4 : Hid (w.grownBy W4 (some g)) := (HGv.out.but _).trans hg
    have HS := Lib.hid es
    have kS : W4.cell? ⟨g, 0, none⟩ = some (.pointer (some ⟨sb, 0, none⟩)) := (HR4.out.bk.bk.cell 0).trans rfl
    have kM : W4.cell? ⟨sb, 16, none⟩ = some (.map (some mb)) := HR4.out.st.map HR4.out.roots
    clear hg hr4 hpay es er p0
    go_wp2_with (at_delete; refine wpList_drop_blk _ (by rfl) (.tmp 43) (.tmp 44) 96 31 (by rfl) 91 Try.underlying31 Try.underlying96 mb n r'.st.blocks (by rfl) HR4.out.map X (by rfl) HUX.out ?_)
    intro W6 hown6 hg6
    have hr6 : RunIn W6 B NB g args maxw { r' with st := { r.st with blocks := upd r.st.blocks X none } } sb mb n pA pc_ nv := by
     rw [← HS.out]
     exact HR4.out.maps hg6 hown6 HR4.out.nb
    have HR6 := Lib.hid hr6
    have HB6 := Lib.hid (((Below.refl B w).grown HG4.out HP.out (fun k hk => by cases hk; exact HR4.out.bg)).trans ((Below.refl _ _).grown hg6 HR4.out.pos (fun k hk => by cases hk; exact HR4.out.bm)))
    clear hown6 hg6 hr6 kS kM
    go_wp2
    go_ret
    rw [HE.out]
    exact DoPost2.mk rfl HR6.out HB6.out
theorem RunIn.pickTo {w : World} {B NB g : Nat} {args : List Int} {maxw : Int} {r : MRun} {sb mb n : Nat} {pA : Option Addr} {pc_ : Nat} {nv : Value} (h : RunIn w B NB g args maxw r sb mb n pA pc_ nv) {x : Int} {rest : List Int} (hp : r.pick = x :: rest) {pA' : Option Addr} {pc' : Nat}
 (hrd : RdU w B pA' rest.length rest) (hpc : rest.length ≤ pc') : RunIn (w.setCell ⟨g, 22, none⟩ (.slice pA' rest.length pc')) B NB g args maxw { r with pick := rest } sb mb n pA' pc' nv := by
 obtain ⟨n1, n2, n3, n4, n5, n6⟩ := h.ne
 have hg := grown_set w g 22 (.slice pA' rest.length pc')
 exact ⟨h.bk.setAny (RC.set_pick h.bk.2.1 h.bk.2.2 _) h.bk.2.1 h.bk.2.2, Bk.grown h.st hg (by simpa using n1), h.map.kept hg (by simpa using fun e => n2 e.symm), by have := h.nb; rw [hp, List.length_cons] at this; show n + rest.length ≤ NB; omega, h.news.kept hg (by
  cases hv : nv.ownBlock with
  | none => exact .inl rfl
  | some b => exact .inr (by rw [← hv]; exact n4)), hrd.below ((Below.refl _ _).grown hg h.pos (fun j hj => by cases hj; exact h.bg)), hpc, h.bg, h.bs, h.bm, h.roots⟩
theorem RunIn.newsTo {w w' : World} {B NB g : Nat} {args : List Int} {maxw : Int} {r : MRun} {sb mb n : Nat} {pA : Option Addr} {pc_ : Nat} {nv v : Value} (h : RunIn w B NB g args maxw r sb mb n pA pc_ nv) {x : Int}
 (hg : w.grownBy w' nv.ownBlock) (ho : w'.ownsRow B 31 1 v (r.news.length + 1) (u64s r.news ++ [.int .u64 x])) : RunIn (w'.setCell ⟨g, 27, none⟩ v) B NB g args maxw { r with news := r.news ++ [x] } sb mb n pA pc_ v := by
 obtain ⟨n1, n2, n3, n4, n5, n6⟩ := h.ne
 have hs := grown_set w' g 27 v
 have hb := h.bk.grown hg n4
 have hst : Bk w' sb _ _ := Bk.grown h.st hg n5
 have hm := h.map.kept hg n6
 refine ⟨hb.setAny (RC.set_news hb.2.1 hb.2.2 _) hb.2.1 hb.2.2, Bk.grown hst hs (by simpa using n1), hm.kept hs (by simpa using fun e => n2 e.symm), h.nb, ?_, ?_, h.pcap, h.bg, h.bs, h.bm, h.roots⟩
 ·have e : u64s (r.news ++ [x]) = u64s r.news ++ [.int .u64 x] := by simp
  show World.ownsRow _ _ _ _ _ (r.news ++ [x]).length (u64s (r.news ++ [x]))
  rw [e, List.length_append]
  have h4 := hb.bk.ne_own ho (by decide)
  exact ho.kept hs (by
   cases hv : v.ownBlock with
   | none => exact .inl rfl
   | some b => exact .inr (by rw [← hv]; exact h4))
 ·have hB : ∀ j, nv.ownBlock = some j → B ≤ j := fun j hj => (h.news.lt j hj).1
  exact (h.pick.below ((Below.refl _ _).grown hg h.pos hB)).below ((Below.refl _ _).grown hs (Nat.le_trans h.pos hg.size) (fun j hj => by cases hj; exact h.bg))
theorem RunIn.putReg {w : World} {B NB g : Nat} {args : List Int} {maxw : Int} {r : MRun} {sb mb n : Nat} {pA : Option Addr} {pc_ : Nat} {nv : Value} (h : RunIn w B NB g args maxw r sb mb n pA pc_ nv) {a : Nat} (ha : a < 16) (x : Int) : RunIn (w.setCell ⟨g, 5 + a, none⟩ (.int .u64 x)) B NB g args maxw { r with regs := r.regs.set a x } sb mb n pA pc_ nv :=
 h.self (r' := { r with regs := r.regs.set a x }) (grown_set _ _ _ _) (h.bk.setAny (RC.set_reg h.bk.2.1 (by rw [h.bk.2.2]; exact ha) x) h.bk.2.1 (by have := h.bk.2.2; show (r.regs.set a x).length = 16; rw [List.length_set]; exact this)) rfl rfl rfl
set_option maxRecDepth 100000 in
set_option maxHeartbeats 8000000 in
theorem fresh_any (B NB g : Nat) (args : List Int) (maxw : Int) (a b c : Nat) (imm : Int) (r : MRun) (sb mb n : Nat) (pA : Option Addr) (pc_ : Nat) (nv : Value) (w : World) (h : RunIn w B NB g args maxw r sb mb n pA pc_ nv) (hok : ROk maxw r) (ha16 : a < 16) (hNB : NB < 1000000000000) (hnl : r.news.length ≤ 1000000000) (hpl : r.pick.length ≤ 1000000000) :
 Calls Try.prog 54 #[.pointer (some ⟨g, 0, none⟩), .agg #[.int .i64 15, .int .i64 a, .int .i64 b, .int .i64 c, .int .u64 imm]] w (DoPost2 B NB g args maxw (freshP maxw ⟨15, a, b, c, imm⟩ r) w) := by
 obtain ⟨i0, hi0, hy0, hy1, hy2⟩ := info_parts info_u64
 obtain ⟨W1, hW1⟩ : ∃ W1, w.alloc (.cells #[.int .i64 15, .int .i64 a, .int .i64 b, .int .i64 c, .int .u64 imm] 62) = W1 := ⟨_, rfl⟩
 have HG1 : Hid (w.grownBy W1 none) := by show World.grownBy _ _ _; rw [← hW1]; exact World.grownBy_alloc _ _ _
 have hI : Bk W1 w.heap.size 62 #[.int .i64 15, .int .i64 a, .int .i64 b, .int .i64 c, .int .u64 imm] := by rw [← hW1]; exact Bk.new w _ _
 have HP := Lib.hid h.pos
 have HNg : Hid (g ≠ w.heap.size) := fun e => by have := h.lt.1; omega
 have HNm : Hid (mb ≠ w.heap.size) := fun e => by have := h.lt.2.2; omega
 have HR := Lib.hid (h.more HG1.out)
 have HI := Lib.hid hI
 have HW1 := Lib.hid hW1
 have HK := Lib.hid hok
 have q0 : W1.cell? ⟨w.heap.size, 0, none⟩ = some (.int .i64 15) := (hI.cell 0).trans rfl
 have q1 : W1.cell? ⟨w.heap.size, 1, none⟩ = some (.int .i64 a) := (hI.cell 1).trans rfl
 have ai : (a : Int) < 16 := by omega
 clear hW1 hI h hok
 go_enter Try.func54, Try.ntmps54
 go_wp2_with fail
 rw [HW1.out]
 refine (payIn_any B NB g args maxw 15 r sb mb n pA pc_ nv _ HR.out HK.out).mono ?_
 intro e W4 hp
 obtain ⟨hp | hp, hg⟩ := hp
 ·obtain ⟨hpay, rfl, hr4⟩ := hp
  have HE : Hid (freshP maxw ⟨15, a, b, c, imm⟩ r = (42, r)) := by
   show _ = _
   rw [freshP]
   simp only [hpay]
  have HG4 : Hid (w.grownBy W4 (some g)) := (HG1.out.but _).trans hg
  have HR4 := Lib.hid hr4
  clear hg hr4 hpay
  go_wp2
  go_ret
  rw [HE.out]
  exact DoPost2.mk rfl HR4.out ((Below.refl _ _).grown HG4.out HP.out (fun k hk => by cases hk; exact HR4.out.bg))
 ·obtain ⟨r', hpay, es, er, en, ep, rfl, hr4⟩ := hp
  have HPay := Lib.hid hpay
  have HR4 := Lib.hid hr4
  have HG4 : Hid (w.grownBy W4 (some g)) := (HG1.out.but _).trans hg
  have HB4 := Lib.hid ((Below.refl B w).grown HG4.out HP.out (fun k hk => by cases hk; exact HR4.out.bg))
  have HS := Lib.hid (And.intro es (And.intro er (And.intro en ep)))
  have hI4 := HI.out.grown hg (fun e => HNg.out (Option.some.inj e))
  have HI4 := Lib.hid hI4
  have k22 : W4.cell? ⟨g, 22, none⟩ = some (.slice pA r'.pick.length pc_) := (HR4.out.bk.tail 1).trans rfl
  have f22 := HR4.out.bk.bk.frozen 22
  have hlt := HR4.out.lt
  obtain ⟨hltg, hlts, hltm⟩ := hlt
  clear hg hr4 hpay es er en hI4 q0 q1
  rw [ep] at k22
  clear ep
  cases hpk : r.pick with
  | nil =>
    rw [hpk] at k22
    have HE : Hid (freshP maxw ⟨15, a, b, c, imm⟩ r = (43, r')) := by
     show _ = _
     rw [freshP]
     simp only [HPay.out, hpk]
    clear hpk
    simp only [List.length_nil] at k22
    go_wp2
    go_ret
    rw [HE.out]
    exact DoPost2.mk rfl HR4.out HB4.out
  | cons x rest =>
    rw [hpk, List.length_cons] at k22
    have hpk' : r'.pick = x :: rest := by rw [HS.out.2.2.2, hpk]
    obtain ⟨pb, po, hpA, hpb, hcell⟩ := HR4.out.pick.at_ (by rw [hpk']; simp)
    subst hpA
    have kx : W4.cell? ⟨pb, po, none⟩ = some (.int .u64 x) := hcell 0 _ (by rw [hpk']; rfl)
    have hux : U64 x := HK.out.pick x (by rw [hpk]; simp)
    have HUX := Lib.hid hux
    have HPk := Lib.hid hpk'
    have HPr := Lib.hid hpk
    have kS : W4.cell? ⟨g, 0, none⟩ = some (.pointer (some ⟨sb, 0, none⟩)) := (HR4.out.bk.bk.cell 0).trans rfl
    have kM : W4.cell? ⟨sb, 16, none⟩ = some (.map (some mb)) := HR4.out.st.map HR4.out.roots
    have hlk := HR4.out.map.look (t := 96) (e := 91) Try.underlying31 Try.underlying96 (zero_blk _) HUX.out
    rw [HS.out.1] at hlk
    obtain ⟨hx0, hx1⟩ := hux
    have hpb2 : pb < W4.heap.size := Nat.lt_of_lt_of_le hpb HR4.out.pos
    clear hpk hpk' hcell
    by_cases hbad : (r.st.blocks x).isSome ∨ x = 0 ∨ 64 < x
    ·have HE : Hid (freshP maxw ⟨15, a, b, c, imm⟩ r = (43, r')) := by
      show _ = _
      rw [freshP]
      simp only [HPay.out, HPr.out, if_pos hbad]
     have HBad := Lib.hid hbad
     clear hbad
     cases hf : r.st.blocks x with
     | some ws =>
       rw [hf] at hlk
       have h8 := HR4.out.map.words HUX.out (by rw [HS.out.1]; exact hf)
       obtain ⟨x0, x1, x2, x3, x4, x5, x6, x7, hws⟩ := eight h8
       subst hws
       simp only [Option.getD_some, Option.isSome_some, blkV, List.map_cons, List.map_nil] at hlk
       clear hf
       go_wp2
       go_ret
       rw [HE.out]
       exact DoPost2.mk rfl (HR4.out.more (World.grownBy_alloc _ _ _)) (HB4.out.trans ((Below.refl _ _).grown (World.grownBy_alloc _ _ none) HR4.out.pos (by simp)))
     | none =>
       rw [hf] at hlk
       have hb2 : x = 0 ∨ 64 < x := by
        rcases HBad.out with h | h
        ·rw [hf] at h; cases h
        ·exact h
       simp only [Option.getD_none, Option.isSome_none, blkV, zero8, List.map_cons, List.map_nil] at hlk
       clear hf
       rcases hb2 with rfl | hb2
       ·go_wp2
        go_ret
        rw [HE.out]
        exact DoPost2.mk rfl (HR4.out.more (World.grownBy_alloc _ _ _)) (HB4.out.trans ((Below.refl _ _).grown (World.grownBy_alloc _ _ none) HR4.out.pos (by simp)))
       ·have hz : (x == 0) = false := by simp; omega
        have hd : decide (x > 64) = true := decide_eq_true hb2
        have hd2 : decide (64 < x) = true := decide_eq_true hb2
        go_wp2
        go_ret
        rw [HE.out]
        exact DoPost2.mk rfl (HR4.out.more (World.grownBy_alloc _ _ _)) (HB4.out.trans ((Below.refl _ _).grown (World.grownBy_alloc _ _ none) HR4.out.pos (by simp)))
    ·have hf : r.st.blocks x = none := by
      cases hf : r.st.blocks x with
      | none => rfl
      | some ws => exact absurd (.inl (by rw [hf]; rfl)) hbad
     have hz0 : ¬ x = 0 := fun e => hbad (.inr (.inl e))
     have h64 : ¬ 64 < x := fun e => hbad (.inr (.inr e))
     have HE : Hid (freshP maxw ⟨15, a, b, c, imm⟩ r = (0, { r' with pick := rest, st := { r.st with blocks := upd r.st.blocks x (some zero8) }, news := r.news ++ [x], regs := r.regs.set a x })) := by
      show _ = _
      rw [freshP]
      simp only [HPay.out, HPr.out, if_neg hbad]
      rfl
     rw [hf] at hlk
     simp only [Option.getD_none, Option.isSome_none, blkV, zero8, List.map_cons, List.map_nil] at hlk
     have hz : (x == 0) = false := by simpa using hz0
     have hd : decide (x > 64) = false := decide_eq_false h64
     have hd2 : decide (64 < x) = false := decide_eq_false h64
     clear hbad hf hz0 h64
     obtain ⟨W5, hW5⟩ : ∃ W5, W4.alloc (.cells #[.int .u64 0, .int .u64 0, .int .u64 0, .int .u64 0, .int .u64 0, .int .u64 0, .int .u64 0, .int .u64 0] 91) = W5 := ⟨_, rfl⟩
     have HG5 : Hid (W4.grownBy W5 none) := by show World.grownBy _ _ _; rw [← hW5]; exact World.grownBy_alloc _ _ _
     have HR5 := Lib.hid (HR4.out.more HG5.out)
     have HW5 := Lib.hid hW5
     clear hW5
     go_upto_region 10 with fail
     rw [HW5.out]
     clear kS kM k22 f22 kx hlk hltg hlts hltm hpb2
     have hnb := HR5.out.nb
     rw [HPk.out, List.length_cons] at hnb
     have hpc5 := HR5.out.pcap
     rw [HPk.out, List.length_cons] at hpc5
     have hrd := HR5.out.pick
     rw [HPk.out, List.length_cons] at hrd
     have hpl' : rest.length + 1 ≤ 1000000000 := by rw [HPr.out, List.length_cons] at hpl; exact hpl
     obtain ⟨m, hm⟩ : ∃ m, rest.length = m := ⟨_, rfl⟩
     have hrd2 : RdU W5 B (some ⟨pb, po + 1, none⟩) rest.length rest := by
      refine ⟨by simp, by rw [hm] at hpl' ⊢; unfold maxLen; omega, fun h0 => ⟨pb, po + 1, rfl, hpb, fun j u hu => ?_⟩⟩
      obtain ⟨b', o', hA, _, hc⟩ := hrd.at_ (by omega)
      have hA := Option.some.inj hA
      injection hA with e1 e2
      subst e1
      subst e2
      have := hc (j + 1) u (by simpa using hu)
      rw [show po + 1 + j = po + (j + 1) by omega]; exact this
     have k22 : W5.cell? ⟨g, 22, none⟩ = some (.slice (some ⟨pb, po, none⟩) (m + 1) pc_) := by
      have h := (HR5.out.bk.tail 1)
      rw [h, ← hm]
      show some (Value.slice _ r'.pick.length _) = _
      rw [HPk.out, List.length_cons]
     have f22 := HR5.out.bk.bk.frozen 22
     have kS : W5.cell? ⟨g, 0, none⟩ = some (.pointer (some ⟨sb, 0, none⟩)) := (HR5.out.bk.bk.cell 0).trans rfl
     have kM : W5.cell? ⟨sb, 16, none⟩ = some (.map (some mb)) := HR5.out.st.map HR5.out.roots
     have k27 : W5.cell? ⟨g, 27, none⟩ = some nv := (HR5.out.bk.tail 6).trans rfl
     have hnn := HR5.out.ne
     rw [hm] at hnb hpc5 hpl'
     have Hm := Lib.hid hm
     have Hrd2 := Lib.hid hrd2
     obtain ⟨q, rfl⟩ : ∃ q, pc_ = q + 1 := ⟨pc_ - 1, by omega⟩
     clear hrd hrd2 hm
     rcases Nat.eq_zero_or_pos q with rfl | hq
     ·obtain rfl : m = 0 := by omega
      have hre : rest = [] := List.eq_nil_of_length_eq_zero Hm.out
      have hRd : RdU W5 B (some ⟨pb, po, none⟩) rest.length rest := by subst hre; exact Rd.nil _ _ _ _
      have HRd := Lib.hid hRd
      clear hre hRd
      have hr6 : RunIn (W5.setCell ⟨g, 22, none⟩ (.slice (some ⟨pb, po, none⟩) 0 0)) B NB g args maxw { r' with pick := rest } sb mb n (some ⟨pb, po, none⟩) 0 nv := by
       have h := HR5.out.pickTo HPk.out (pA' := some ⟨pb, po, none⟩) (pc' := 0) HRd.out (by rw [Hm.out]; omega)
       rw [Hm.out] at h
       exact h
      obtain ⟨W6, hW6⟩ : ∃ W6, W5.setCell ⟨g, 22, none⟩ (.slice (some ⟨pb, po, none⟩) 0 0) = W6 := ⟨_, rfl⟩
      have HG6 : Hid (W5.grownBy W6 (some g)) := by show World.grownBy _ _ _; rw [← hW6]; exact grown_set _ _ _ _
      have HW6 := Lib.hid hW6
      rw [hW6] at hr6
      have HR6 := Lib.hid hr6
      have hnN : n < maxLen := by unfold maxLen; omega
      have HRN : Hid (r'.news.length ≤ 1000000000) := by rw [HS.out.2.2.1]; exact hnl
      clear hr6 hW6
      go_upto_region 11 with fail
      rw [HW6.out]
      have jS : W6.cell? ⟨g, 0, none⟩ = some (.pointer (some ⟨sb, 0, none⟩)) := (HR6.out.bk.bk.cell 0).trans rfl
      have jM : W6.cell? ⟨sb, 16, none⟩ = some (.map (some mb)) := HR6.out.st.map HR6.out.roots
      clear kS kM k22 f22 k27 hnn
      go_wp2_with (at_mapUpdate; refine wpList_store_blk _ (by rfl) (.tmp 63) (.tmp 64) (.tmp 65) 96 (by rfl) 31 91 Try.underlying31 Try.underlying96 mb n r'.st.blocks (by rfl) HR6.out.map hnN x (by rfl) HUX.out zero8 (by rfl) rfl ?_)
      intro W7 hown7 hg7
      have hr7 : RunIn W7 B NB g args maxw { { r' with pick := rest } with st := { r'.st with blocks := upd r'.st.blocks x (some zero8) } } sb mb (n + 1) (some ⟨pb, po, none⟩) 0 nv := HR6.out.maps hg7 hown7 (by show n + 1 + rest.length ≤ NB; rw [Hm.out]; omega)
      have HR7 := Lib.hid hr7
      have HG7 := Lib.hid hg7
      have k27 : W7.cell? ⟨g, 27, none⟩ = some nv := (HR7.out.bk.tail 6).trans rfl
      have hlt7 := HR7.out.lt
      obtain ⟨ltg, lts, ltm⟩ := hlt7
      have RN : Hid (Rd (W7.alloc (.cells #[.int .u64 x] 31)) (W7.heap.size + 1) 1 (some ⟨W7.heap.size, 0, none⟩) 1 [.int .u64 x]) := Rd.newAt W7 _ _ _ rfl (size := 1) (m := 1) rfl (by simp [maxLen])
      have hr7n := HRN.out
      have hbs7 : B ≤ (W7.alloc (.cells #[.int .u64 x] 31)).heap.size := by rw [World.size_alloc]; have := HR7.out.pos; omega
      clear hown7 hg7 hr7 jS jM
      go_wp2_with (at_builtin; refine wpList_app _ (by rfl) (.tmp 71) (.tmp 73) 34 (by rfl) B 31 i0 _ 1 8 Try.underlying34 hi0 hy0 hy1 hy2 rfl (by decide) nv r'.news.length (u64s r'.news) (by rfl) (HR7.out.news.alloc _) (W7.heap.size + 1) (some ⟨W7.heap.size, 0, none⟩) 1 1 [.int .u64 x] (by rfl) RN.out (by intro u hu; simp at hu; subst hu; rfl) (by unfold maxLen; omega) (by omega) hbs7 ?_)
      intro v9 w9 hown9 hg9 _
      obtain ⟨A9, c9, hv9, _, _⟩ := Rd.of_own_cap hown9
      subst hv9
      have HRa := Lib.hid (HR7.out.more (World.grownBy_alloc W7 (.cells #[.int .u64 x] 31) none))
      have HG9 := Lib.hid hg9
      have hr10 := HRa.out.newsTo hg9 hown9
      have HR10 := Lib.hid hr10
      have h27 : w9.cell? ⟨g, 27, none⟩ = some nv := ((HRa.out.bk.grown hg9 HRa.out.ne.2.2.2.1).tail 6).trans rfl
      have f27 := (HRa.out.bk.grown hg9 HRa.out.ne.2.2.2.1).bk.frozen 27
      have hI9 : Bk w9 w.heap.size 62 #[.int .i64 15, .int .i64 a, .int .i64 b, .int .i64 c, .int .u64 imm] := by
       have h1 := ((HI4.out.grown HG5.out (by simp)).grown HG6.out (fun e => HNg.out (Option.some.inj e)))
       have h2 := h1.grown HG7.out (fun e => HNm.out (Option.some.inj e))
       have h3 := h2.alloc (.cells #[.int .u64 x] 31)
       exact h3.grown HG9.out (h3.ne_own HRa.out.news (by decide))
      have HI9 := Lib.hid hI9
      clear hown9 hg9 hr10 hI9 k27 RN hr7n hbs7 ltg lts ltm
      obtain ⟨W10, hW10⟩ : ∃ W10, w9.setCell ⟨g, 27, none⟩ (.slice A9 (r'.news.length + 1) c9) = W10 := ⟨_, rfl⟩
      have HG10 : Hid (w9.grownBy W10 (some g)) := by show World.grownBy _ _ _; rw [← hW10]; exact grown_set _ _ _ _
      have HW10 := Lib.hid hW10
      rw [hW10] at HR10
      clear hW10
      go_upto_region 13 with fail
      rw [HW10.out]
      have p1 : W10.cell? ⟨w.heap.size, 1, none⟩ = some (.int .i64 a) := ((HI9.out.grown HG10.out (fun e => HNg.out (Option.some.inj e))).cell 1).trans rfl
      have pR : W10.cell? ⟨g, 5 + a, none⟩ = some (.int .u64 (r'.regs.getD a 0)) := HR10.out.bk.reg ha16
      have fR := HR10.out.bk.bk.frozen (5 + a)
      obtain ⟨Y, hY⟩ : ∃ Y, r'.regs.getD a 0 = Y := ⟨_, rfl⟩
      rw [hY] at pR
      clear hY h27 f27
      go_still_tail 7, (by kernel_rfl)
      go_wp2
      go_ret
      rw [HE.out, ← HS.out.1, ← HS.out.2.1, ← HS.out.2.2.1]
      have hfin := (HR10.out.putReg ha16 x).more (grown_drew _ _)
      have hB : Below B w (W10.setCell ⟨g, 5 + a, none⟩ (.int .u64 x)).drew :=
       HB4.out.trans (((Below.refl B W4).grown HG5.out HR4.out.pos (by simp)).trans (((Below.refl B W5).grown HG6.out HR5.out.pos (fun k hk => by cases hk; exact HR5.out.bg)).trans (((Below.refl B W6).grown HG7.out HR6.out.pos (fun k hk => by cases hk; exact HR6.out.bm)).trans (((Below.refl B W7).grown (World.grownBy_alloc W7 (.cells #[.int .u64 x] 31) none) HR7.out.pos (by simp)).trans (((Below.refl B _).grown HG9.out HRa.out.pos (fun k hk => (HRa.out.news.lt k hk).1)).trans (((Below.refl B w9).grown HG10.out (Nat.le_trans HRa.out.pos HG9.out.size) (fun k hk => by cases hk; exact HR10.out.bg)).trans ((Below.refl B W10).grown ((grown_set _ _ _ _).trans (grown_drew _ _)) HR10.out.pos (fun k hk => by cases hk; exact HR10.out.bg))))))))
      exact DoPost2.mk rfl hfin hB
     ·
      have hr6 : RunIn (W5.setCell ⟨g, 22, none⟩ (.slice (some ⟨pb, po + 1, none⟩) m q)) B NB g args maxw { r' with pick := rest } sb mb n (some ⟨pb, po + 1, none⟩) q nv := by
       have h := HR5.out.pickTo HPk.out (pA' := some ⟨pb, po + 1, none⟩) (pc' := q) Hrd2.out (by rw [Hm.out]; omega)
       rw [Hm.out] at h
       exact h
      obtain ⟨W6, hW6⟩ : ∃ W6, W5.setCell ⟨g, 22, none⟩ (.slice (some ⟨pb, po + 1, none⟩) m q) = W6 := ⟨_, rfl⟩
      have HG6 : Hid (W5.grownBy W6 (some g)) := by show World.grownBy _ _ _; rw [← hW6]; exact grown_set _ _ _ _
      have HW6 := Lib.hid hW6
      rw [hW6] at hr6
      have HR6 := Lib.hid hr6
      have hnN : n < maxLen := by unfold maxLen; omega
      have HRN : Hid (r'.news.length ≤ 1000000000) := by rw [HS.out.2.2.1]; exact hnl
      clear hr6 hW6
      go_upto_region 11 with fail
      rw [HW6.out]
      have jS : W6.cell? ⟨g, 0, none⟩ = some (.pointer (some ⟨sb, 0, none⟩)) := (HR6.out.bk.bk.cell 0).trans rfl
      have jM : W6.cell? ⟨sb, 16, none⟩ = some (.map (some mb)) := HR6.out.st.map HR6.out.roots
      clear kS kM k22 f22 k27 hnn
      go_wp2_with (at_mapUpdate; refine wpList_store_blk _ (by rfl) (.tmp 63) (.tmp 64) (.tmp 65) 96 (by rfl) 31 91 Try.underlying31 Try.underlying96 mb n r'.st.blocks (by rfl) HR6.out.map hnN x (by rfl) HUX.out zero8 (by rfl) rfl ?_)
      intro W7 hown7 hg7
      have hr7 : RunIn W7 B NB g args maxw { { r' with pick := rest } with st := { r'.st with blocks := upd r'.st.blocks x (some zero8) } } sb mb (n + 1) (some ⟨pb, po + 1, none⟩) q nv := HR6.out.maps hg7 hown7 (by show n + 1 + rest.length ≤ NB; rw [Hm.out]; omega)
      have HR7 := Lib.hid hr7
      have HG7 := Lib.hid hg7
      have k27 : W7.cell? ⟨g, 27, none⟩ = some nv := (HR7.out.bk.tail 6).trans rfl
      have hlt7 := HR7.out.lt
      obtain ⟨ltg, lts, ltm⟩ := hlt7
      have RN : Hid (Rd (W7.alloc (.cells #[.int .u64 x] 31)) (W7.heap.size + 1) 1 (some ⟨W7.heap.size, 0, none⟩) 1 [.int .u64 x]) := Rd.newAt W7 _ _ _ rfl (size := 1) (m := 1) rfl (by simp [maxLen])
      have hr7n := HRN.out
      have hbs7 : B ≤ (W7.alloc (.cells #[.int .u64 x] 31)).heap.size := by rw [World.size_alloc]; have := HR7.out.pos; omega
      clear hown7 hg7 hr7 jS jM
      go_wp2_with (at_builtin; refine wpList_app _ (by rfl) (.tmp 71) (.tmp 73) 34 (by rfl) B 31 i0 _ 1 8 Try.underlying34 hi0 hy0 hy1 hy2 rfl (by decide) nv r'.news.length (u64s r'.news) (by rfl) (HR7.out.news.alloc _) (W7.heap.size + 1) (some ⟨W7.heap.size, 0, none⟩) 1 1 [.int .u64 x] (by rfl) RN.out (by intro u hu; simp at hu; subst hu; rfl) (by unfold maxLen; omega) (by omega) hbs7 ?_)
      intro v9 w9 hown9 hg9 _
      obtain ⟨A9, c9, hv9, _, _⟩ := Rd.of_own_cap hown9
      subst hv9
      have HRa := Lib.hid (HR7.out.more (World.grownBy_alloc W7 (.cells #[.int .u64 x] 31) none))
      have HG9 := Lib.hid hg9
      have hr10 := HRa.out.newsTo hg9 hown9
      have HR10 := Lib.hid hr10
      have h27 : w9.cell? ⟨g, 27, none⟩ = some nv := ((HRa.out.bk.grown hg9 HRa.out.ne.2.2.2.1).tail 6).trans rfl
      have f27 := (HRa.out.bk.grown hg9 HRa.out.ne.2.2.2.1).bk.frozen 27
      have hI9 : Bk w9 w.heap.size 62 #[.int .i64 15, .int .i64 a, .int .i64 b, .int .i64 c, .int .u64 imm] := by
       have h1 := ((HI4.out.grown HG5.out (by simp)).grown HG6.out (fun e => HNg.out (Option.some.inj e)))
       have h2 := h1.grown HG7.out (fun e => HNm.out (Option.some.inj e))
       have h3 := h2.alloc (.cells #[.int .u64 x] 31)
       exact h3.grown HG9.out (h3.ne_own HRa.out.news (by decide))
      have HI9 := Lib.hid hI9
      clear hown9 hg9 hr10 hI9 k27 RN hr7n hbs7 ltg lts ltm
      obtain ⟨W10, hW10⟩ : ∃ W10, w9.setCell ⟨g, 27, none⟩ (.slice A9 (r'.news.length + 1) c9) = W10 := ⟨_, rfl⟩
      have HG10 : Hid (w9.grownBy W10 (some g)) := by show World.grownBy _ _ _; rw [← hW10]; exact grown_set _ _ _ _
      have HW10 := Lib.hid hW10
      rw [hW10] at HR10
      clear hW10
      go_upto_region 13 with fail
      rw [HW10.out]
      have p1 : W10.cell? ⟨w.heap.size, 1, none⟩ = some (.int .i64 a) := ((HI9.out.grown HG10.out (fun e => HNg.out (Option.some.inj e))).cell 1).trans rfl
      have pR : W10.cell? ⟨g, 5 + a, none⟩ = some (.int .u64 (r'.regs.getD a 0)) := HR10.out.bk.reg ha16
      have fR := HR10.out.bk.bk.frozen (5 + a)
      obtain ⟨Y, hY⟩ : ∃ Y, r'.regs.getD a 0 = Y := ⟨_, rfl⟩
      rw [hY] at pR
      clear hY h27 f27
      go_still_tail 7, (by kernel_rfl)
      go_wp2
      go_ret
      rw [HE.out, ← HS.out.1, ← HS.out.2.1, ← HS.out.2.2.1]
      have hfin := (HR10.out.putReg ha16 x).more (grown_drew _ _)
      have hB : Below B w (W10.setCell ⟨g, 5 + a, none⟩ (.int .u64 x)).drew :=
       HB4.out.trans (((Below.refl B W4).grown HG5.out HR4.out.pos (by simp)).trans (((Below.refl B W5).grown HG6.out HR5.out.pos (fun k hk => by cases hk; exact HR5.out.bg)).trans (((Below.refl B W6).grown HG7.out HR6.out.pos (fun k hk => by cases hk; exact HR6.out.bm)).trans (((Below.refl B W7).grown (World.grownBy_alloc W7 (.cells #[.int .u64 x] 31) none) HR7.out.pos (by simp)).trans (((Below.refl B _).grown HG9.out HRa.out.pos (fun k hk => (HRa.out.news.lt k hk).1)).trans (((Below.refl B w9).grown HG10.out (Nat.le_trans HRa.out.pos HG9.out.size) (fun k hk => by cases hk; exact HR10.out.bg)).trans ((Below.refl B W10).grown ((grown_set _ _ _ _).trans (grown_drew _ _)) HR10.out.pos (fun k hk => by cases hk; exact HR10.out.bg))))))))
      exact DoPost2.mk rfl hfin hB
end Go.Proofs.Ytjggmimaolddkaa
