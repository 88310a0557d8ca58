import Derived.Test.YtjggmimaolddkaaOrAE
import Derived.StillTailTactics
namespace Go.Proofs.Ytjggmimaolddkaa
open Go.RowKit
set_option linter.unusedVariables false
abbrev RdU (w : World) (B : Nat) (A : Option Addr) (n : Nat) (l : List Int) : Prop := Rd w B 1 A n (u64s l)
theorem Rd.u64Len {w : World} {B n : Nat} {A : Option Addr} {l : List Int} (h : RdU w B A n l) : l.length = n := by
 have := h.len; rw [List.length_map] at this; omega
def rc (sb : Nat) (args : List Int) (maxw : Int) (pv nv : Value) (r : MRun) : RC := ⟨sb, args, r.regs, maxw, pv, r.code, r.val, r.steps, r.writes, nv, r.pc, r.ended⟩
def stCells (roots : List Int) (mb : Nat) : List Value := u64s roots ++ [.map (some mb)]
def BkS (w : World) (sb : Nat) (roots : List Int) (mb : Nat) : Prop := Bk w sb 98 (stCells roots mb).toArray
theorem BkS.root {w : World} {sb mb : Nat} {roots : List Int} (h : BkS w sb roots mb) {k : Nat} (hk : k < roots.length) : w.cell? ⟨sb, k, none⟩ = some (.int .u64 (roots.getD k 0)) := by
 have := Bk.cell h k
 rw [this, stCells, List.getElem?_toArray, List.getElem?_append_left (by simpa using hk)]
 simp [hk]
theorem BkS.map {w : World} {sb mb : Nat} {roots : List Int} (h : BkS w sb roots mb) (hr : roots.length = 16) : w.cell? ⟨sb, 16, none⟩ = some (.map (some mb)) := by
 have := Bk.cell h 16
 rw [this]
 simp [stCells, hr]
theorem BkS.setRoot {w : World} {sb mb : Nat} {roots : List Int} (h : BkS w sb roots mb) {k : Nat} (hk : k < roots.length) (v : Int) : BkS (w.setCell ⟨sb, k, none⟩ (.int .u64 v)) sb (roots.set k v) mb := by
 have := Bk.set_ h k (.int .u64 v)
 rw [List.setIfInBounds_toArray] at this
 unfold BkS
 have e : (stCells roots mb).set k (.int .u64 v) = stCells (roots.set k v) mb := by
  rw [stCells, List.set_append_left _ _ (by simpa using hk), ← List.map_set]; rfl
 rw [← e]; exact this
structure RunIn (w : World) (B NB g : Nat) (args : List Int) (maxw : Int) (r : MRun) (sb mb n : Nat) (pA : Option Addr) (pc_ : Nat) (nv : Value) : Prop where
 bk : BkR w g (rc sb args maxw (.slice pA r.pick.length pc_) nv r)
 st : BkS w sb r.st.roots mb
 map : OwnB w Try.prog 31 mb n r.st.blocks
 nb : n + r.pick.length ≤ NB
 news : w.ownsRow B 31 1 nv r.news.length (u64s r.news)
 pick : RdU w B pA r.pick.length r.pick
 pcap : r.pick.length ≤ pc_
 bg : B ≤ g
 bs : B ≤ sb
 bm : B ≤ mb
 roots : r.st.roots.length = 16
def RunAt (w : World) (B NB g : Nat) (args : List Int) (maxw : Int) (r : MRun) : Prop := ∃ sb mb n pA pc_ nv, RunIn w B NB g args maxw r sb mb n pA pc_ nv
structure ROk (maxw : Int) (r : MRun) : Prop where
 regs : ∀ x ∈ r.regs, U64 x
 roots : ∀ x ∈ r.st.roots, U64 x
 blocks : ∀ h ws, r.st.blocks h = some ws → ∀ x ∈ ws, U64 x
 pick : ∀ x ∈ r.pick, U64 x
 w0 : 0 ≤ r.writes ∧ r.writes ≤ 1000000000000
 w1 : r.writes ≤ maxw ∨ r.writes = 0
 mw : -9223372036854775808 ≤ maxw ∧ maxw ≤ 9223372036854775807
section
variable {w w' : World} {B NB g : Nat} {args : List Int} {maxw : Int} {r : MRun} {sb mb n : Nat} {pA : Option Addr} {pc_ : Nat} {nv : Value}
theorem RunIn.ne (h : RunIn w B NB g args maxw r sb mb n pA pc_ nv) : g ≠ sb ∧ g ≠ mb ∧ sb ≠ mb ∧ nv.ownBlock ≠ some g ∧ nv.ownBlock ≠ some sb ∧ some mb ≠ nv.ownBlock := by
 refine ⟨?_, fun e => h.map.ne_bk h.bk.bk e.symm, fun e => h.map.ne_bk h.st e.symm, h.bk.bk.ne_own h.news (by decide), Bk.ne_own h.st h.news (by decide), h.map.ne_own h.news⟩
 rintro rfl
 have h1 := h.bk.bk
 have h2 := h.st
 unfold Bk at h1
 unfold BkS Bk at h2
 rw [h1] at h2
 simp at h2
theorem RunIn.lt (h : RunIn w B NB g args maxw r sb mb n pA pc_ nv) : g < w.heap.size ∧ sb < w.heap.size ∧ mb < w.heap.size := ⟨h.bk.lt, Bk.lt h.st, h.map.lt⟩
theorem RunIn.pos (h : RunIn w B NB g args maxw r sb mb n pA pc_ nv) : B ≤ w.heap.size := Nat.le_of_lt (Nat.lt_of_le_of_lt h.bg h.lt.1)
theorem RunIn.more (h : RunIn w B NB g args maxw r sb mb n pA pc_ nv) (hg : w.grownBy w' none) : RunIn w' B NB g args maxw r sb mb n pA pc_ nv :=
 ⟨h.bk.grown hg (by simp), Bk.grown h.st hg (by simp), h.map.kept hg (by simp), h.nb, h.news.kept hg (by
  cases hv : nv.ownBlock with
  | none => exact .inl rfl
  | some b => exact .inr (by simp)), h.pick.below ((Below.refl _ _).grown hg h.pos (by simp)), h.pcap, h.bg, h.bs, h.bm, h.roots⟩
theorem RunIn.self (h : RunIn w B NB g args maxw r sb mb n pA pc_ nv) (hg : w.grownBy w' (some g)) {r' : MRun} (hb : BkR w' g (rc sb args maxw (.slice pA r.pick.length pc_) nv r')) (hs : r'.st = r.st) (hn : r'.news = r.news) (hp : r'.pick = r.pick) :
 RunIn w' B NB g args maxw r' sb mb n pA pc_ nv := by
 obtain ⟨n1, n2, n3, n4, n5, n6⟩ := h.ne
 refine ⟨by rw [hp]; exact hb, by rw [hs]; exact Bk.grown h.st hg (by simpa using n1), by rw [hs]; exact h.map.kept hg (by simpa using fun e => n2 e.symm), by rw [hp]; exact h.nb, ?_, ?_, by rw [hp]; exact h.pcap, h.bg, h.bs, h.bm, by rw [hs]; exact h.roots⟩
 ·rw [hn]
  exact h.news.kept hg (by
   cases hv : nv.ownBlock with
   | none => exact .inl rfl
   | some b => exact .inr (by rw [← hv]; exact n4))
 ·rw [hp]
  exact h.pick.below ((Below.refl _ _).grown hg h.pos (fun k hk => by cases hk; exact h.bg))
theorem RunIn.state (h : RunIn w B NB g args maxw r sb mb n pA pc_ nv) (hg : w.grownBy w' (some sb)) {r' : MRun} (hs : BkS w' sb r'.st.roots mb) (hl : r'.st.roots.length = 16) (hb : r'.st.blocks = r.st.blocks)
 (hc : ∀ pv nv, rc sb args maxw pv nv r' = rc sb args maxw pv nv r) (hn : r'.news = r.news) (hp : r'.pick = r.pick) : RunIn w' B NB g args maxw r' sb mb n pA pc_ nv := by
 obtain ⟨n1, n2, n3, n4, n5, n6⟩ := h.ne
 refine ⟨by rw [hp, hc]; exact h.bk.grown hg (by simpa using fun e => n1 e.symm), hs, by rw [hb]; exact h.map.kept hg (by simpa using fun e => n3 e.symm), by rw [hp]; exact h.nb, ?_, ?_, by rw [hp]; exact h.pcap, h.bg, h.bs, h.bm, hl⟩
 ·rw [hn]
  exact h.news.kept hg (by
   cases hv : nv.ownBlock with
   | none => exact .inl rfl
   | some b => exact .inr (by rw [← hv]; exact n5))
 ·rw [hp]
  exact h.pick.below ((Below.refl _ _).grown hg h.pos (fun k hk => by cases hk; exact h.bs))
theorem RunIn.below (h : RunIn w B NB g args maxw r sb mb n pA pc_ nv) {row : Option Nat} (hg : w.grownBy w' row) (hr : ∀ k, row = some k → B ≤ k) : Below B w w' := (Below.refl _ _).grown hg h.pos hr
end
def PayIn (B NB g : Nat) (args : List Int) (maxw op : Int) (r : MRun) (sb mb n : Nat) (pA : Option Addr) (pc_ : Nat) (nv : Value) (w : World) (e : Ending) (w' : World) : Prop :=
 ((payP maxw op r = none ∧ e = .returned (.int .i64 42) ∧ RunIn w' B NB g args maxw r sb mb n pA pc_ nv) ∨
   ∃ r', payP maxw op r = some r' ∧ r'.st = r.st ∧ r'.regs = r.regs ∧ r'.news = r.news ∧ r'.pick = r.pick ∧ e = .returned (.int .i64 0) ∧ RunIn w' B NB g args maxw r' sb mb n pA pc_ nv) ∧ w.grownBy w' (some g)
theorem payIn_any (B NB g : Nat) (args : List Int) (maxw op : Int) (r : MRun) (sb mb n : Nat) (pA : Option Addr) (pc_ : Nat) (nv : Value) (w : World) (h : RunIn w B NB g args maxw r sb mb n pA pc_ nv) (hok : ROk maxw r) :
 Calls Try.prog 67 #[.pointer (some ⟨g, 0, none⟩), .int .i64 op] w (PayIn B NB g args maxw op r sb mb n pA pc_ nv w) := by
 refine (pay_any g _ op w h.bk hok.mw hok.w0 hok.w1).mono fun e w' hp => ?_
 obtain ⟨hp1, hg⟩ := hp
 refine ⟨?_, hg⟩
 split at hp1
 ·rename_i ht
  have ht : maxw - r.writes < writesOf op := ht
  exact .inl ⟨by rw [payP, if_pos ht], hp1.1, h.self (r' := r) hg hp1.2 rfl rfl rfl⟩
 ·rename_i ht
  have ht : ¬ maxw - r.writes < writesOf op := ht
  exact .inr ⟨{ r with writes := r.writes + writesOf op }, by rw [payP, if_neg ht], rfl, rfl, rfl, rfl, hp1.1, h.self (r' := { r with writes := r.writes + writesOf op }) hg hp1.2 rfl rfl rfl⟩
def DoPost (B NB g : Nat) (args : List Int) (maxw : Int) (p : Int × MRun) (w : World) (e : Ending) (w' : World) : Prop :=
 e = .returned (.int .i64 p.1) ∧ RunAt w' B NB g args maxw p.2 ∧ Below B w w'
structure RegsOk (i : Ins) : Prop where
 a : 0 ≤ i.a ∧ i.a < 16
 b : 0 ≤ i.b ∧ i.b < 16
 c : 0 ≤ i.c ∧ i.c < 16
set_option maxRecDepth 100000 in
set_option maxHeartbeats 4000000 in
theorem root_any (B NB g : Nat) (args : List Int) (maxw : Int) (i : Ins) (r : MRun) (sb mb n : Nat) (pA : Option Addr) (pc_ : Nat) (nv : Value) (w : World) (h : RunIn w B NB g args maxw r sb mb n pA pc_ nv) (hok : ROk maxw r) (hi : RegsOk i) (hop : i.op = 9 ∨ i.op = 10) :
 Calls Try.prog 52 #[.pointer (some ⟨g, 0, none⟩), i.v] w (DoPost B NB g args maxw (rootP maxw i r) w) := by
 obtain ⟨op, ia, ib, ic, imm⟩ := i
 obtain ⟨⟨a0, a1⟩, ⟨b0, b1⟩, ⟨c0, c1⟩⟩ := hi
 simp only at a0 a1 b0 b1 c0 c1 hop
 obtain ⟨a, rfl⟩ : ∃ a : Nat, ia = (a : Int) := ⟨ia.toNat, by omega⟩
 obtain ⟨b, rfl⟩ : ∃ b : Nat, ib = (b : Int) := ⟨ib.toNat, by omega⟩
 have ha16 : a < 16 := by omega
 have hb16 : b < 16 := by omega
 obtain ⟨W1, hW1⟩ : ∃ W1, w.alloc (.cells #[.int .i64 op, .int .i64 a, .int .i64 b, .int .i64 ic, .int .u64 imm] 62) = W1 := ⟨_, rfl⟩
 have HG1 : Hid (w.grownBy W1 none) := by show World.grownBy _ _ _; rw [← hW1]; exact World.grownBy_alloc _ _ _
 have hI : Bk W1 w.heap.size 62 #[.int .i64 op, .int .i64 a, .int .i64 b, .int .i64 ic, .int .u64 imm] := by rw [← hW1]; exact Bk.new w _ _
 have HR := Lib.hid (h.more HG1.out)
 have HW1 := Lib.hid hW1
 have HK := Lib.hid hok
 have HP := Lib.hid h.pos
 have HNg : Hid (g ≠ w.heap.size) := fun e => by have := h.lt.1; omega
 have q0 := (hI.cell 0).trans rfl
 have q1 := (hI.cell 1).trans rfl
 have q2 := (hI.cell 2).trans rfl
 have l16 := HR.out.bk.2.2
 obtain ⟨X, hX⟩ : ∃ X, r.regs.getD b 0 = X := ⟨_, rfl⟩
 obtain ⟨Y, hY⟩ : ∃ Y, r.regs.getD a 0 = Y := ⟨_, rfl⟩
 have uX : U64 X := by rw [← hX]; exact getD_u64 hok.regs b
 have kX : W1.cell? ⟨g, 5 + b, none⟩ = some (.int .u64 X) := by rw [← hX]; exact HR.out.bk.reg hb16
 have kY : W1.cell? ⟨g, 5 + a, none⟩ = some (.int .u64 Y) := by rw [← hY]; exact HR.out.bk.reg ha16
 have fA := HR.out.bk.bk.frozen (5 + a)
 have kS : W1.cell? ⟨g, 0, none⟩ = some (.pointer (some ⟨sb, 0, none⟩)) := (HR.out.bk.bk.cell 0).trans rfl
 have HX : Hid (r.reg (b : Int) = X) := hX
 have HY : Hid (r.reg (a : Int) = Y) := hY
 obtain ⟨uX0, uX1⟩ := uX
 clear hW1 hI hX hY h hok l16
 simp only [Ins.v]
 go_enter Try.func52, Try.ntmps52
 go_wp2_with fail
 rw [HW1.out]
 go_quiet (fail)
 by_cases hx : 16 ≤ X
 ·have hd : decide (X ≥ 16) = true := decide_eq_true hx
  have hd2 : decide (16 ≤ X) = true := decide_eq_true hx
  go_wp2
  go_ret
  have HE : rootP maxw ⟨op, a, b, ic, imm⟩ r = (44, r) := by rw [rootP, if_pos (by rw [HX.out]; omega)]
  rw [HE]
  exact ⟨rfl, ⟨_, _, _, _, _, _, HR.out.more (grown_drewN _ _ _)⟩, (Below.refl _ _).grown (HG1.out.trans (grown_drewN _ _ _)) HP.out (by simp)⟩
 ·have hd : decide (X ≥ 16) = false := decide_eq_false hx
  have hd2 : decide (16 ≤ X) = false := decide_eq_false hx
  obtain ⟨x, rfl⟩ : ∃ x : Nat, X = (x : Int) := ⟨X.toNat, by omega⟩
  have hx16 : x < 16 := by omega
  rcases hop with rfl | rfl
  ·obtain ⟨R, hR⟩ : ∃ R, r.st.roots.getD x 0 = R := ⟨_, rfl⟩
   have kR : W1.cell? ⟨sb, x, none⟩ = some (.int .u64 R) := by rw [← hR]; exact HR.out.st.root (by rw [HR.out.roots]; exact hx16)
   have HE : Hid (rootP maxw ⟨9, a, b, ic, imm⟩ r = (0, r.put a R)) := by
    show _ = _
    rw [rootP, if_neg (by rw [HX.out]; omega), if_pos rfl, HX.out, ← hR]; rfl
   clear hR
   go_wp2_with fail
   generalize hW2 : W1.drewN _ = W2
   have HR2 : Hid (RunIn W2 B NB g args maxw r sb mb n pA pc_ nv) := by rw [← hW2]; exact HR.out.more (grown_drewN _ _ _)
   have HG2 : Hid (w.grownBy W2 none) := by show World.grownBy _ _ _; rw [← hW2]; exact HG1.out.trans (grown_drewN _ _ _)
   have r1 : W2.cell? ⟨w.heap.size, 1, none⟩ = some (.int .i64 a) := by rw [← hW2]; exact q1
   have rS : W2.cell? ⟨g, 0, none⟩ = some (.pointer (some ⟨sb, 0, none⟩)) := by rw [← hW2]; exact kS
   have rR : W2.cell? ⟨sb, x, none⟩ = some (.int .u64 R) := by rw [← hW2]; exact kR
   have rA : W2.cell? ⟨g, 5 + a, none⟩ = some (.int .u64 Y) := by rw [← hW2]; exact kY
   have fA2 : W2.frozen? ⟨g, 5 + a, none⟩ = false := by rw [← hW2]; exact fA
   clear hW2 q0 q1 q2 kX kY fA kS kR
   go_still_tail 15, (by kernel_rfl)
   go_wp2
   go_ret
   rw [HE.out]
   have hset := HR2.out.bk.setAny (RC.set_reg HR2.out.bk.2.1 (by rw [HR2.out.bk.2.2]; exact ha16) R) HR2.out.bk.2.1 (by simpa using HR2.out.bk.2.2)
   refine ⟨rfl, ⟨_, _, _, _, _, _, HR2.out.self (r' := r.put a R) ((grown_set _ _ _ _).trans (grown_drew _ _)) hset.drew rfl rfl rfl⟩, (Below.refl _ _).grown (row := some g) (((HG2.out.but _).trans (grown_set _ _ _ _)).trans (grown_drew _ _)) HP.out (fun k hk => by cases hk; exact HR2.out.bg)⟩
  ·go_wp2_with fail
   refine (payIn_any B NB g args maxw 10 r sb mb n pA pc_ nv _ (HR.out.more (grown_drewN _ _ _)) HK.out).mono ?_
   intro e W2 hp
   obtain ⟨hp | hp, hg⟩ := hp
   ·obtain ⟨hpay, rfl, hr2⟩ := hp
    have HE : Hid (rootP maxw ⟨10, a, b, ic, imm⟩ r = (42, r)) := by
     show _ = _
     rw [rootP, if_neg (by rw [HX.out]; omega), if_neg (by show ¬ (10 : Int) = 9; decide)]
     simp only [hpay]
    have HG2 : Hid (w.grownBy W2 (some g)) := (HG1.out.but _).trans (((grown_drewN _ _ _).but _).trans hg)
    have HR2 := Lib.hid hr2
    clear hg hr2 hpay
    go_wp2
    go_ret
    rw [HE.out]
    exact ⟨rfl, ⟨_, _, _, _, _, _, HR2.out⟩, (Below.refl _ _).grown HG2.out HP.out (fun k hk => by cases hk; exact HR2.out.bg)⟩
   ·obtain ⟨r', hpay, es, er, en, ep, rfl, hr2⟩ := hp
    have HE : Hid (rootP maxw ⟨10, a, b, ic, imm⟩ r = (0, { r' with st := { r.st with roots := r.st.roots.set x Y } })) := by
     show _ = _
     rw [rootP, if_neg (by rw [HX.out]; omega), if_neg (by show ¬ (10 : Int) = 9; decide)]
     simp only [hpay, HX.out, HY.out]
     rfl
    have HR2 := Lib.hid hr2
    have HG2 : Hid (w.grownBy W2 (some g)) := (HG1.out.but _).trans (((grown_drewN _ _ _).but _).trans hg)
    have HS := Lib.hid es
    have hlw : w.heap.size < W1.heap.size := World.block_lt_of_cell? _ _ q1
    have hng : g ≠ w.heap.size := HNg.out
    have r1 : W2.cell? ⟨w.heap.size, 1, none⟩ = some (.int .i64 a) := hg.cell (a := ⟨w.heap.size, 1, none⟩) q1 (fun e => hng (Option.some.inj e).symm)
    have rS : W2.cell? ⟨g, 0, none⟩ = some (.pointer (some ⟨sb, 0, none⟩)) := (HR2.out.bk.bk.cell 0).trans rfl
    have rA : W2.cell? ⟨g, 5 + a, none⟩ = some (.int .u64 Y) := by
     have h := HR2.out.bk.reg ha16
     rw [h]; show some (Value.int .u64 (r'.regs.getD a 0)) = _
     rw [er]; exact congrArg (fun z => some (Value.int .u64 z)) HY.out
    have rR : W2.cell? ⟨sb, x, none⟩ = some (.int .u64 (r.st.roots.getD x 0)) := by rw [← es]; exact HR2.out.st.root (by rw [HR2.out.roots]; exact hx16)
    have fR := Bk.frozen HR2.out.st x
    obtain ⟨R, hR⟩ : ∃ R, r.st.roots.getD x 0 = R := ⟨_, rfl⟩
    rw [hR] at rR
    clear q0 q1 q2 kX kY fA kS hpay hg hr2 es er hR hlw hng
    go_wp2_with fail
    go_still_tail 15, (by kernel_rfl)
    go_wp2
    go_ret
    rw [HE.out]
    have hroots : r'.st.roots.length = 16 := HR2.out.roots
    have hst : BkS (W2.setCell ⟨sb, x, none⟩ (.int .u64 Y)) sb (r.st.roots.set x Y) mb := by rw [← HS.out]; exact HR2.out.st.setRoot (by rw [HR2.out.roots]; exact hx16) Y
    exact ⟨rfl, ⟨_, _, _, _, _, _, (HR2.out.state (r' := { r' with st := { r.st with roots := r.st.roots.set x Y } }) ((grown_set _ _ _ _).trans (grown_drew _ _)) hst (by simp [← HS.out, hroots]) (by rw [HS.out]) (fun _ _ => rfl) rfl rfl)⟩, ((Below.refl _ _).grown HG2.out HP.out (fun k hk => by cases hk; exact HR2.out.bg)).trans ((Below.refl _ _).grown ((grown_set _ _ _ _).trans (grown_drew _ _)) HR2.out.pos (fun k hk => by cases hk; exact HR2.out.bs))⟩
end Go.Proofs.Ytjggmimaolddkaa
