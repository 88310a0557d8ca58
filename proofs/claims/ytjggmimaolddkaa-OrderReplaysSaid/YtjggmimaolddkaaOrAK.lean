import Derived.Test.YtjggmimaolddkaaOrAJ
import Derived.Deep.MidRow
import Derived.Test.YtjggmimaolddkaaOrAD
import Derived.Laws.StructEq
import Derived.ChangeKeysEq
namespace Go.Proofs.Ytjggmimaolddkaa
open Go.RowKit
set_option linter.unusedVariables false
def SOk (s : MSt) : Prop := (∀ x ∈ s.roots, U64 x) ∧ ∀ h ws, s.blocks h = some ws → ∀ x ∈ ws, U64 x
def doneV (r : MRun) (nv : Value) : Array Value := #[.int .i64 r.code, .int .u64 r.val, .int .i64 r.steps, .int .i64 r.writes, nv]
structure RunPost (B n sb mb : Nat) (s : MSt) (r : MRun) (w : World) (e : Ending) (w' : World) : Prop where
 st : ∃ nv mb', e = .returned (.agg (doneV r nv)) ∧ StIn w' B n sb mb' (afterP s r) ∧ w'.ownsRow w.heap.size 31 1 nv r.news.length (u64s r.news) ∧ (mb' = mb ∨ w.heap.size ≤ mb') ∧ (r.code ≠ 0 → mb' = mb ∧ w.grownBy w' none)
 ok : SOk (afterP s r)
 grown : w.grownBy w' (some sb)
def stepsAt (w : World) (g : Nat) : Nat := (intOf ((w.cell? ⟨g, 25, none⟩).getD undef)).toNat
theorem bk_grown_below {w w' : World} (h : Below w.heap.size w w') : w.grownBy w' none := ⟨h.os, h.tape, h.output, h.size, fun k hk _ => h.block k hk⟩
theorem StIn.wide {w : World} {B n m sb mb : Nat} {s : MSt} (h : StIn w B n sb mb s) (hm : n ≤ m) : StIn w B m sb mb s := ⟨h.st, h.map.mono hm, h.roots, h.bs, h.bm⟩
section
variable {w : World} {B NB g : Nat} {args : List Int} {maxw : Int} {r : MRun} {sb mb n : Nat} {pA : Option Addr} {pc_ : Nat} {nv : Value}
theorem RunIn.setSteps (h : RunIn w B NB g args maxw r sb mb n pA pc_ nv) (x : Int) : RunIn (w.setCell ⟨g, 25, none⟩ (.int .i64 x)) B NB g args maxw { r with steps := x } sb mb n pA pc_ nv :=
 h.self (r' := { r with steps := x }) (grown_set _ _ _ _) (h.bk.setAny (RC.set_steps h.bk.2.1 h.bk.2.2 x) h.bk.2.1 h.bk.2.2) rfl rfl rfl
theorem RunIn.setCode (h : RunIn w B NB g args maxw r sb mb n pA pc_ nv) (x : Int) : RunIn (w.setCell ⟨g, 23, none⟩ (.int .i64 x)) B NB g args maxw { r with code := x } sb mb n pA pc_ nv :=
 h.self (r' := { r with code := x }) (grown_set _ _ _ _) (h.bk.setAny (RC.set_code h.bk.2.1 h.bk.2.2 x) h.bk.2.1 h.bk.2.2) rfl rfl rfl
end
theorem Bk.five {w : World} {g : Nat} {t : TypeId} {a0 a1 a2 a3 a4 : Value} (h : Bk w g t #[a0, a1, a2, a3, a4]) (b0 b1 b2 b3 b4 : Value) :
 Bk (((((w.setCell ⟨g, 0, none⟩ b0).setCell ⟨g, 1, none⟩ b1).setCell ⟨g, 2, none⟩ b2).setCell ⟨g, 3, none⟩ b3).setCell ⟨g, 4, none⟩ b4) g t #[b0, b1, b2, b3, b4] :=
 ((((h.set_ 0 b0).set_ 1 b1).set_ 2 b2).set_ 3 b3).set_ 4 b4
theorem below_five {B : Nat} {a w : World} (h : Below B a w) {g : Nat} (hg : B ≤ g) (b0 b1 b2 b3 b4 : Value) :
 Below B a (((((w.setCell ⟨g, 0, none⟩ b0).setCell ⟨g, 1, none⟩ b1).setCell ⟨g, 2, none⟩ b2).setCell ⟨g, 3, none⟩ b3).setCell ⟨g, 4, none⟩ b4) :=
 ((((h.setCell hg b0).setCell hg b1).setCell hg b2).setCell hg b3).setCell hg b4
theorem grown_five (w : World) (g : Nat) (b0 b1 b2 b3 b4 : Value) :
 w.grownBy (((((w.setCell ⟨g, 0, none⟩ b0).setCell ⟨g, 1, none⟩ b1).setCell ⟨g, 2, none⟩ b2).setCell ⟨g, 3, none⟩ b3).setCell ⟨g, 4, none⟩ b4) (some g) :=
 ((((grown_set w g 0 b0).trans (grown_set _ g 1 b1)).trans (grown_set _ g 2 b2)).trans (grown_set _ g 3 b3)).trans (grown_set _ g 4 b4)
theorem own_ge {w : World} {base size n : Nat} {e : TypeId} {v : Value} {xs : List Value} (h : w.ownsRow base e size v n xs) {b : Nat} (hb : v.ownBlock = some b) : base ≤ b := by
 rcases h.2 with ⟨rfl, _⟩ | ⟨g', cap, cur, rfl, hg, _⟩
 ·cases hb
 ·obtain rfl : g' = b := by simpa [Value.ownBlock] using hb
  exact hg
theorem own_kept {w w' : World} {base size n k : Nat} {e : TypeId} {v : Value} {xs : List Value} (h : w.ownsRow base e size v n xs) (hg : w.grownBy w' (some k)) (hk : k < base) : w'.ownsRow base e size v n xs :=
 h.kept hg (by
  cases hv : v.ownBlock with
  | none => exact .inl rfl
  | some b => exact .inr (by intro e; have := own_ge h hv; cases e; omega))
theorem grown_two {w wr W1 W2 : World} {a b : Nat} (h0 : Below w.heap.size w wr) (h1 : wr.grownBy W1 (some a)) (h2 : W1.grownBy W2 (some b)) (hb : w.heap.size ≤ b) : w.grownBy W2 (some a) :=
 ⟨h2.os.trans (h1.os.trans h0.os), h2.tape.trans (h1.tape.trans h0.tape), h2.output.trans (h1.output.trans h0.output), Nat.le_trans h0.size (Nat.le_trans h1.size h2.size), fun i hi hne =>
  (h2.block i (Nat.lt_of_lt_of_le hi (Nat.le_trans h0.size h1.size)) (fun e => by cases e; omega)).trans ((h1.block i (Nat.lt_of_lt_of_le hi h0.size) hne).trans (h0.block i hi))⟩
theorem st_size {roots : List Int} {mb : Nat} (h : roots.length = 16) : (stCells roots mb).toArray.size = 17 := by simp [stCells, h]
theorem st_one (roots : List Int) (mb : Nat) : (stCells roots mb).toArray.all (·.oneCell') = true := by
 rw [Array.all_eq_true_iff_forall_mem]
 intro v hv
 simp [stCells] at hv
 rcases hv with ⟨x, _, rfl⟩ | rfl <;> rfl
theorem grown_setRow (w : World) (g : Nat) (cs : Array Value) : w.grownBy (w.setRow g cs) (some g) :=
 ⟨rfl, rfl, rfl, by simp, fun i hi hne => setRow_other w g i cs (fun e => hne (by rw [e]))⟩
def RunLoop (l : List Ins) (args : List Int) (maxw : Int) (N P0 : Nat) (r0 : MRun) (B NB g k : Nat) (wr : World) : Prop :=
 ∃ r, RunAt wr B (NB + k) g args maxw r ∧ r.steps = k ∧ k ≤ N ∧ ((r.ended = false ∧ Under l args maxw N P0 r0 k r) ∨ (r.ended = true ∧ Over l args maxw N P0 r0 r))
theorem start_under {l : List Ins} {args : List Int} {maxw : Int} {N : Nat} {s : MSt} {pick : List Int} (hs : SOk s) (hp : ∀ x ∈ pick, U64 x) (hm : -9223372036854775808 ≤ maxw ∧ maxw ≤ 9223372036854775807) (hl : rightP l = true) :
 Under l args maxw N pick.length (startP s pick) 0 (startP s pick) :=
 ⟨⟨fun x hx => by
  simp [startP, zero16] at hx
  subst hx
  exact ⟨by decide, by decide⟩, hs.1, hs.2, hp, by show (0 : Int) ≤ 0 ∧ (0 : Int) ≤ _; decide, .inr rfl, hm⟩, rfl, rfl, ⟨0, rfl, (right_parts hl).1⟩, by show (0 : Int) ≤ _; omega, by show 0 ≤ 0; omega, by show pick.length ≤ _; omega, by omega, rfl⟩
set_option maxRecDepth 100000 in
set_option maxHeartbeats 8000000 in
theorem run_any (B n sb mb : Nat) (s : MSt) (l : List Ins) (A : Option Addr) (ln lc : Nat) (args : List Int) (fuel maxw : Int) (pick : List Int) (pA : Option Addr) (pc_ : Nat) (w : World) (h : StIn w B n sb mb s) (hs : SOk s) (hr : RdI w w.heap.size A ln l) (hok : ∀ i ∈ l, i.Ok)
 (ha4 : args.length = 4) (ha : ∀ x ∈ args, U64 x) (hf : -9223372036854775808 ≤ fuel ∧ fuel ≤ 1000000000) (hm : -9223372036854775808 ≤ maxw ∧ maxw ≤ 9223372036854775807) (hp : RdU w w.heap.size pA pick.length pick) (hpu : ∀ x ∈ pick, U64 x) (hpc : pick.length ≤ pc_) (hpl : pick.length ≤ 1000000000) (hn : n ≤ 100000000000) :
 Calls Try.prog 22 #[.pointer (some ⟨sb, 0, none⟩), .slice A ln lc, .agg (u64s args).toArray, .int .i64 fuel, .int .i64 maxw, .slice pA pick.length pc_] w (RunPost B (n + pick.length + fuel.toNat) sb mb s (runP s l args fuel maxw pick) w) := by
 obtain ⟨y0, y1, y2, y3, rfl⟩ := four ha4
 have HS := Lib.hid h
 have HSO := Lib.hid hs
 have HR := Lib.hid hr
 have HK := Lib.hid hok
 have HA := Lib.hid ha
 have HP := Lib.hid hp
 have HPU := Lib.hid hpu
 have hlt := h.st.lt
 clear h hs hr hok hp hpu ha ha4
 simp only [u64s, List.map_cons, List.map_nil]
 go_enter Try.func22, Try.ntmps22
 go_wp2_with fail
 obtain ⟨W1, hW1⟩ : ∃ W1, (w.alloc (.cells #[.int .u64 y0, .int .u64 y1, .int .u64 y2, .int .u64 y3] 37)).alloc (.cells #[.int .i64 0, .int .u64 0, .int .i64 0, .int .i64 0, .slice none 0 0] 80) = W1 := ⟨_, rfl⟩
 have hB1 : Below w.heap.size w W1 := by rw [← hW1]; exact ((Below.refl _ _).alloc (Nat.le_refl _) _).alloc (by simp) _
 have hX1 : Bk W1 w.heap.size 37 #[.int .u64 y0, .int .u64 y1, .int .u64 y2, .int .u64 y3] := by rw [← hW1]; exact (Bk.new w _ _).alloc _
 have hD1 : Bk W1 (w.heap.size + 1) 80 #[.int .i64 0, .int .u64 0, .int .i64 0, .int .i64 0, .slice none 0 0] := by
  rw [← hW1]; simpa using Bk.new (w.alloc (.cells #[.int .u64 y0, .int .u64 y1, .int .u64 y2, .int .u64 y3] 37)) 80 #[.int .i64 0, .int .u64 0, .int .i64 0, .int .i64 0, .slice none 0 0]
 have hz1 : W1.heap.size = w.heap.size + 2 := by rw [← hW1]; simp
 rw [hW1]
 refine (right_any l A ln lc _ ((HR.out.below hB1).more hB1.size) HK.out).mono ?_
 rintro e W2 ⟨rfl, hb2⟩
 have HB2 := Lib.hid (hB1.trans (hb2.mono hB1.size))
 have HX2 := Lib.hid (hX1.below hb2 hX1.lt)
 have HD2 := Lib.hid (hD1.below hb2 hD1.lt)
 have HZ2 : Hid (w.heap.size + 2 ≤ W2.heap.size) := by show _ ≤ _; rw [← hz1]; exact hb2.size
 clear hB1 hX1 hD1 hz1 hW1 hb2
 have m0 := HD2.out.cell 0
 have m1 := HD2.out.cell 1
 have m2 := HD2.out.cell 2
 have m3 := HD2.out.cell 3
 have m4 := HD2.out.cell 4
 have f0 := HD2.out.frozen 0
 have f1 := HD2.out.frozen 1
 have f2 := HD2.out.frozen 2
 have f3 := HD2.out.frozen 3
 have f4 := HD2.out.frozen 4
 simp at m0 m1 m2 m3 m4
 cases hri : rightP l
 ·have HRU : Hid (runP s l [y0, y1, y2, y3] fuel maxw pick = badP s pick) := by show _ = _; unfold runP; rw [hri]; rfl
  clear hri
  go_wp2_with fail
  refine bodyPost_ret (results_cell_row rfl _ _ (w.heap.size + 1) 80 _ (0, 0) _ rfl (HD2.out.five _ _ _ _ _) Try.underlying80 rfl (by kernel_rfl)) rfl ?_
  rw [HRU.out]
  have hb := below_five HB2.out (g := w.heap.size + 1) (by omega) (.int .i64 30) (.int .u64 0) (.int .i64 0) (.int .i64 0) (.slice none 0 0)
  have hg := bk_grown_below hb
  exact ⟨⟨.slice none 0 0, mb, rfl, (HS.out.more hg).wide (by omega), World.ownsRow_nil _ _ _ _, .inl rfl, fun _ => ⟨rfl, hg⟩⟩, HSO.out, hg.but _⟩
 have HRI := Lib.hid hri
 clear hri
 have HS2 := Lib.hid (HS.out.more (bk_grown_below HB2.out))
 clear m0 m1 m2 m3 m4 f0 f1 f2 f3 f4
 have d0 : W2.cell? ⟨w.heap.size, 0, none⟩ = some (.int .u64 y0) := (HX2.out.cell 0).trans rfl
 have d1 : W2.cell? ⟨w.heap.size, 1, none⟩ = some (.int .u64 y1) := (HX2.out.cell 1).trans rfl
 have d2 : W2.cell? ⟨w.heap.size, 2, none⟩ = some (.int .u64 y2) := (HX2.out.cell 2).trans rfl
 have d3 : W2.cell? ⟨w.heap.size, 3, none⟩ = some (.int .u64 y3) := (HX2.out.cell 3).trans rfl
 have e0 : W2.drew.cell? ⟨w.heap.size, 0, none⟩ = some (.int .u64 y0) := d0
 have e1 : W2.drew.cell? ⟨w.heap.size, 1, none⟩ = some (.int .u64 y1) := d1
 have e2 : W2.drew.cell? ⟨w.heap.size, 2, none⟩ = some (.int .u64 y2) := d2
 have e3 : W2.drew.cell? ⟨w.heap.size, 3, none⟩ = some (.int .u64 y3) := d3
 have HXd : Hid (Bk W2.drew w.heap.size 37 #[.int .u64 y0, .int .u64 y1, .int .u64 y2, .int .u64 y3]) := HX2.out
 have HBd : Hid (Below W2.heap.size W2 W2.drew) := (Below.refl _ _).drew
 have HSd : Hid (StIn W2.drew B n sb mb s) := HS2.out.more (grown_drew _ _)
 have hzd : W2.heap.size ≤ W2.drew.heap.size := Nat.le_refl _
 go_wp2_with fail
 go_region_held3 (fun w' => w'.cell? ⟨w.heap.size, 0, none⟩ = some (.int .u64 y0) ∧ w'.cell? ⟨w.heap.size, 1, none⟩ = some (.int .u64 y1) ∧ w'.cell? ⟨w.heap.size, 2, none⟩ = some (.int .u64 y2) ∧ w'.cell? ⟨w.heap.size, 3, none⟩ = some (.int .u64 y3))
  (first | exact ⟨e0, e1, e2, e3⟩ | exact ⟨d0, d1, d2, d3⟩ | go_keep)
  (first
    | (go_at_call 39
       refine (mclone_any B n sb mb s _ HSd.out).mono ?_
       rintro e wn ⟨sb2, mb2, rfl, hst3, hb3⟩
       have HS3 := Lib.hid hst3
       have HXd := Lib.hid (HXd.out.below hb3 HXd.out.lt)
       have HBd := Lib.hid (HBd.out.trans (hb3.mono hzd))
       have e0 : wn.cell? ⟨w.heap.size, 0, none⟩ = some (.int .u64 y0) := (HXd.out.cell 0).trans rfl
       have e1 : wn.cell? ⟨w.heap.size, 1, none⟩ = some (.int .u64 y1) := (HXd.out.cell 1).trans rfl
       have e2 : wn.cell? ⟨w.heap.size, 2, none⟩ = some (.int .u64 y2) := (HXd.out.cell 2).trans rfl
       have e3 : wn.cell? ⟨w.heap.size, 3, none⟩ = some (.int .u64 y3) := (HXd.out.cell 3).trans rfl
       clear hb3 hst3))
 clear d0 d1 d2 d3 e0 e1 e2 e3
 generalize hW3 : wn.alloc (.cells _ _) = W3
 have HL : Hid (RunLoop l [y0, y1, y2, y3] maxw fuel.toNat pick.length (startP s pick) W2.heap.size (n + pick.length) wn.heap.size 0 W3) := by
  show RunLoop _ _ _ _ _ _ _ _ _ _ _
  have hbz := HBd.out.size
  have hbw := HB2.out.size
  refine ⟨startP s pick, ⟨sb2, mb2, n, pA, pc_, .slice none 0 0, ?_⟩, rfl, by omega, .inl ⟨rfl, start_under HSO.out HPU.out hm HRI.out⟩⟩
  rw [← hW3]
  refine ⟨⟨Bk.new _ _ _, rfl, rfl⟩, Bk.alloc HS3.out.st _, HS3.out.map.alloc _, Nat.le_refl _, World.ownsRow_nil _ _ _ _, ?_, hpc, hbz, HS3.out.bs, HS3.out.bm, HS3.out.roots⟩
  exact ((((HP.out.below HB2.out).more hbw).below HBd.out).alloc hbz _)
 have HB3 : Hid (Below W2.heap.size W2 W3) := by
  show Below _ _ _
  rw [← hW3]; exact HBd.out.alloc HBd.out.size _
 have HZ3 : Hid (wn.heap.size < W3.heap.size) := by show _ < _; rw [← hW3]; simp
 have HGn : Hid (W2.heap.size ≤ wn.heap.size) := HBd.out.size
 generalize hgn : wn.heap.size = g at HL HZ3 HGn ⊢
 clear hW3 hgn HS3 HXd HBd
 clear e0 e1 e2 e3 HXd
 go_wp2
 go_loopw [14] (fun _ wr => ∃ k : Nat, Hid (RunLoop l [y0, y1, y2, y3] maxw fuel.toNat pick.length (startP s pick) W2.heap.size (n + pick.length) g k wr) ∧ Hid (Below W2.heap.size W3 wr)) (fun _ wr => fuel.toNat - stepsAt wr g)
 case atStart => exact ⟨0, HL.out, Below.refl _ _⟩
 case round =>
  obtain ⟨k, HRL, HBr⟩ := hrel
  obtain ⟨r, ⟨sb3, mb3, n3, pA3, pc3, nv3, hrun⟩, hst, hkN, hcases⟩ := HRL.out
  obtain ⟨nA, nc, rfl, hnews⟩ := Rd.of_own hrun.news
  clear hnews
  generalize hnv : Value.slice nA r.news.length nc = nv3 at hrun
  have HNV := Lib.hid hnv
  clear hnv
  have HRun := Lib.hid hrun
  have hbw := HB3.out.trans HBr.out
  have HSr := Lib.hid (HS2.out.more (bk_grown_below hbw))
  have HDr := Lib.hid (HD2.out.below hbw HD2.out.lt)
  have HBw := Lib.hid (HB2.out.trans (hbw.mono HB2.out.size))
  have hgsb : g ≠ sb := by have h1 := HB2.out.size; have h2 := HGn.out; omega
  have hgd : g ≠ w.heap.size + 1 := by have h1 := HZ2.out; have h2 := HGn.out; omega
  have hsb3 : sb3 ≠ sb := by have h1 := HB2.out.size; have h2 := hrun.bs; omega
  clear hbw HRL
  have k29 : wr.cell? ⟨g, 29, none⟩ = some (.bool r.ended) := (hrun.bk.tail 8).trans rfl
  have k0 : wr.cell? ⟨g, 0, none⟩ = some (.pointer (some ⟨sb3, 0, none⟩)) := (hrun.bk.bk.cell 0).trans rfl
  have k28 : wr.cell? ⟨g, 28, none⟩ = some (.int .i64 r.pc) := (hrun.bk.tail 7).trans rfl
  have k25 : wr.cell? ⟨g, 25, none⟩ = some (.int .i64 r.steps) := (hrun.bk.tail 4).trans rfl
  rw [hst] at k25
  have HST := Lib.hid hst
  clear hrun hst
  rcases hcases with ⟨he, hu⟩ | ⟨he, ho⟩
  ·have HU := Lib.hid hu
   have HE := Lib.hid he
   rw [he] at k29
   clear hu he
   by_cases hkf : fuel ≤ (k : Int)
   ·have hN0 : fuel.toNat - k = 0 := by omega
    have hgo : Hid (runP s l [y0, y1, y2, y3] fuel maxw pick = { r with code := 41, val := 0 }) := by
     show _ = _
     unfold runP
     rw [if_pos HRI.out, HU.out.eq, hN0]; rfl
    have k23 : wr.cell? ⟨g, 23, none⟩ = some (.int .i64 r.code) := (HRun.out.bk.tail 2).trans rfl
    have k24 : wr.cell? ⟨g, 24, none⟩ = some (.int .u64 r.val) := (HRun.out.bk.tail 3).trans rfl
    have k26 : wr.cell? ⟨g, 26, none⟩ = some (.int .i64 r.writes) := (HRun.out.bk.tail 5).trans rfl
    have k27 : wr.cell? ⟨g, 27, none⟩ = some nv3 := (HRun.out.bk.tail 6).trans rfl
    rw [← HNV.out] at k27
    have f23 := HRun.out.bk.bk.frozen 23
    have f24 := HRun.out.bk.bk.frozen 24
    have m0 := HDr.out.cell 0
    have m1 := HDr.out.cell 1
    have m2 := HDr.out.cell 2
    have m3 := HDr.out.cell 3
    have m4 := HDr.out.cell 4
    have f0 := HDr.out.frozen 0
    have f1 := HDr.out.frozen 1
    have f2 := HDr.out.frozen 2
    have f3 := HDr.out.frozen 3
    have f4 := HDr.out.frozen 4
    simp at m0 m1 m2 m3 m4
    clear k28 k0 hN0
    go_wp2_with fail
    have hg6 := (grown_set wr g 23 (.int .i64 41)).trans (grown_set _ g 24 (.int .u64 0))
    have hD6 := HDr.out.grown hg6 (by simpa using hgd)
    refine bodyPost_ret (results_cell_row rfl _ _ (w.heap.size + 1) 80 _ (0, 0) _ rfl (hD6.five _ _ _ _ _) Try.underlying80 rfl (by kernel_rfl)) rfl ?_
    have hbz := HB2.out.size
    have hz2 := HZ2.out
    have hgn := HGn.out
    have hr6 := (HRun.out.setCode 41).setVal 0
    have hb6 := (HBw.out.setCell (p := ⟨g, 23, none⟩) (by show _ ≤ g; omega) (.int .i64 41)).setCell (p := ⟨g, 24, none⟩) (by show _ ≤ g; omega) (.int .u64 0)
    have hb7 := below_five hb6 (g := w.heap.size + 1) (by omega) (.int .i64 41) (.int .u64 0) (.int .i64 k) (.int .i64 r.writes) (.slice nA r.news.length nc)
    have hg7 := bk_grown_below hb7
    have hg8 := grown_five ((wr.setCell ⟨g, 23, none⟩ (.int .i64 41)).setCell ⟨g, 24, none⟩ (.int .u64 0)) (w.heap.size + 1) (.int .i64 41) (.int .u64 0) (.int .i64 k) (.int .i64 r.writes) (.slice nA r.news.length nc)
    rw [hgo.out]
    refine ⟨⟨nv3, mb, ?_, (HS.out.more hg7).wide (by omega), own_base (own_kept hr6.news hg8 (by omega)) hbz, .inl rfl, fun _ => ⟨rfl, hg7⟩⟩, HSO.out, hg7.but _⟩
    rw [← HNV.out]
    show Ending.returned (.agg #[.int .i64 41, .int .u64 0, .int .i64 k, .int .i64 r.writes, .slice nA r.news.length nc]) = .returned (.agg #[.int .i64 41, .int .u64 0, .int .i64 r.steps, .int .i64 r.writes, .slice nA r.news.length nc])
    rw [HST.out]
   ·obtain ⟨p, hpc, hpl⟩ := HU.out.pc
    rw [hpc] at k28
    have hLn := HR.out.insLen
    obtain ⟨bI, oI, i, hAI, hbI, hi, ci0, ci1, ci2, ci3, ci4⟩ := (HR.out.below HBw.out).insAt (k := p) (by omega)
    subst hAI
    have hpn : (p : Int) < ln := by omega
    have hstep := HU.out.step HRI.out HK.out HA.out (by omega) (by omega) HE.out (i := i) (by rw [hpc]; exact hi) rfl
    have HStep := Lib.hid hstep
    have HIO := Lib.hid (right_insOk HRI.out HK.out hi)
    have f25 := HRun.out.bk.bk.frozen 25
    clear hstep hi
    have HPC : Hid (0 ≤ r.pc ∧ r.pc ≤ 1000) := by show _ ∧ _; have := (right_parts HRI.out).2.1; omega
    clear k0 hpc
    clear hpl hLn
    obtain ⟨K, hK⟩ : ∃ K : Int, (k : Int) = K := ⟨_, rfl⟩
    rw [hK] at k25 hkf
    have hK0 : 0 ≤ K := by omega
    have hK1 : K < 1000000000 := by omega
    have HKk := Lib.hid hK
    have HkN := Lib.hid hkN
    have hwr : IntKind.i64.wrap (K + 1) = K + 1 := IntWalk.i64_in _ (by omega)
    have hbg : bI ≠ g := by have h1 := HB2.out.size; have h2 := HGn.out; omega
    have hbg' : g ≠ bI := fun e => hbg e.symm
    clear hK hkN
    go_wp2_with fail
    have hrs := HRun.out.setSteps (K + 1)
    have hr1 : ({ r with steps := K + 1 } : MRun) = { r with steps := r.steps + 1 } := by rw [HST.out, HKk.out]
    rw [hr1] at hrs
    have hok1 : ROk maxw { r with steps := r.steps + 1 } := ⟨HU.out.ok.regs, HU.out.ok.roots, HU.out.ok.blocks, HU.out.ok.pick, HU.out.ok.w0, HU.out.ok.w1, HU.out.ok.mw⟩
    have hnb := HRun.out.nb
    refine (step_any W2.heap.size (n + pick.length + k) g [y0, y1, y2, y3] maxw i { r with steps := r.steps + 1 } sb3 mb3 n3 pA3 pc3 _ _ hrs hok1 HIO.out (by have := HKk.out; omega) (by have := HU.out.news; have := HKk.out; show r.news.length ≤ _; omega) (by have := HU.out.pick; show r.pick.length ≤ _; omega) HPC.out).mono ?_
    rintro e W5 ⟨rfl, hra, hb5⟩
    have hs5 := HStep.out
    have hb25 := ((Below.refl W2.heap.size wr).setCell (p := ⟨g, 25, none⟩) HGn.out (.int .i64 (K + 1))).trans hb5
    have HB5 := Lib.hid (HBr.out.trans hb25)
    have HBw5 := Lib.hid (HBw.out.trans (hb25.mono HB2.out.size))
    have HD5 := Lib.hid (HDr.out.below hb25 (by have := HZ2.out; omega))
    clear hb25
    clear hb5 hrs hr1 hok1 HStep
    generalize stepP [y0, y1, y2, y3] maxw i { r with steps := r.steps + 1 } = P5 at hs5 hra ⊢
    obtain ⟨E, r5⟩ := P5
    obtain ⟨s1, s2, s3, s4, s5, s6⟩ := hs5
    simp only at s1 s2 s3 s4 s5 s6 hra ⊢
    obtain ⟨sb5, mb5, n5, pA5, pc5, nv5, hr5⟩ := hra
    have HR5 := Lib.hid hr5
    have HK5 := HKk.out
    have hstp : Hid (fuel.toNat - stepsAt W5 g < fuel.toNat - stepsAt wr g) := by
     show _ < _
     have e1 : stepsAt wr g = k := by
      unfold stepsAt; rw [k25]; simp [intOf]; try omega
     have e5 : stepsAt W5 g = k + 1 := by
      unfold stepsAt
      rw [show W5.cell? ⟨g, 25, none⟩ = some (.int .i64 r5.steps) from (HR5.out.bk.tail 4).trans rfl, s2]
      simp [intOf]; try omega
     omega
    clear k25 k28 k29 hr5 f25
    by_cases hE : E = 0
    ·subst hE
     have HLp : Hid (RunLoop l [y0, y1, y2, y3] maxw fuel.toNat pick.length (startP s pick) W2.heap.size (n + pick.length) g (k + 1) W5) := by
      refine ⟨r5, ⟨_, _, _, _, _, _, HR5.out⟩, by rw [s2]; omega, by omega, ?_⟩
      cases he5 : r5.ended
      ·exact .inl ⟨rfl, s6 rfl he5⟩
      ·exact .inr ⟨rfl, s5 rfl he5⟩
     clear s1 s2 s3 s4 s5 s6 HK5
     go_wp2
     go_roundw
     case rel => exact ⟨k + 1, HLp, HB5⟩
     case measure => exact hstp.out
    ·have hgo : Hid (runP s l [y0, y1, y2, y3] fuel maxw pick = { r5 with code := E }) := by
      show _ = _
      unfold runP
      rw [if_pos HRI.out]; exact s4 hE
     obtain ⟨nA5, nc5, rfl, hnews5⟩ := Rd.of_own HR5.out.news
     have hne : (E != 0) = true := by simpa using hE
     have k23 : W5.cell? ⟨g, 23, none⟩ = some (.int .i64 r5.code) := (HR5.out.bk.tail 2).trans rfl
     have k24 : W5.cell? ⟨g, 24, none⟩ = some (.int .u64 r5.val) := (HR5.out.bk.tail 3).trans rfl
     have k25 : W5.cell? ⟨g, 25, none⟩ = some (.int .i64 r5.steps) := (HR5.out.bk.tail 4).trans rfl
     have k26 : W5.cell? ⟨g, 26, none⟩ = some (.int .i64 r5.writes) := (HR5.out.bk.tail 5).trans rfl
     have k27 : W5.cell? ⟨g, 27, none⟩ = some (.slice nA5 r5.news.length nc5) := (HR5.out.bk.tail 6).trans rfl
     have f23 := HR5.out.bk.bk.frozen 23
     have m0 := HD5.out.cell 0
     have m1 := HD5.out.cell 1
     have m2 := HD5.out.cell 2
     have m3 := HD5.out.cell 3
     have m4 := HD5.out.cell 4
     have f0 := HD5.out.frozen 0
     have f1 := HD5.out.frozen 1
     have f2 := HD5.out.frozen 2
     have f3 := HD5.out.frozen 3
     have f4 := HD5.out.frozen 4
     simp at m0 m1 m2 m3 m4
     have HEn := Lib.hid hE
     clear s1 s2 s3 s4 s5 s6 HK5 hnews5 hE
     go_wp2_with fail
     have hg6 := grown_set W5 g 23 (.int .i64 E)
     have hD6 := HD5.out.grown hg6 (by simpa using hgd)
     refine bodyPost_ret (results_cell_row rfl _ _ (w.heap.size + 1) 80 _ (0, 0) _ rfl (hD6.five _ _ _ _ _) Try.underlying80 rfl (by kernel_rfl)) rfl ?_
     have hbz := HB2.out.size
     have hz2 := HZ2.out
     have hgn := HGn.out
     have hr6 := HR5.out.setCode E
     have hb6 := HBw5.out.setCell (p := ⟨g, 23, none⟩) (by show _ ≤ g; omega) (.int .i64 E)
     have hb7 := below_five hb6 (g := w.heap.size + 1) (by omega) (.int .i64 E) (.int .u64 r5.val) (.int .i64 r5.steps) (.int .i64 r5.writes) (.slice nA5 r5.news.length nc5)
     have hg7 := bk_grown_below hb7
     have hg8 := grown_five (W5.setCell ⟨g, 23, none⟩ (.int .i64 E)) (w.heap.size + 1) (.int .i64 E) (.int .u64 r5.val) (.int .i64 r5.steps) (.int .i64 r5.writes) (.slice nA5 r5.news.length nc5)
     rw [hgo.out]
     have haf : afterP s { r5 with code := E } = s := by unfold afterP; rw [if_neg HEn.out]
     refine ⟨⟨_, mb, rfl, ?_, own_base (own_kept hr6.news hg8 (by omega)) hbz, .inl rfl, fun _ => ⟨rfl, hg7⟩⟩, ?_, hg7.but _⟩
     ·rw [haf]; exact (HS.out.more hg7).wide (by omega)
     ·rw [haf]; exact HSO.out
  ·have HO := Lib.hid ho
   rw [he] at k29
   have hrow : wr.heap[sb3]? = some (.cells (stCells r.st.roots mb3).toArray 98 (0, 0)) := HRun.out.st
   have hold : wr.heap[sb]? = some (.cells (stCells s.roots mb).toArray 98 (0, 0)) := HSr.out.st
   have hi86 : (Try.prog.info? 98).map (·.size) = some (stCells r.st.roots mb3).toArray.size := by
    rw [st_size HRun.out.roots]; kernel_rfl
   have hsz : (stCells s.roots mb).toArray.size = (stCells r.st.roots mb3).toArray.size := by rw [st_size HRun.out.roots, st_size HSr.out.roots]
   have h1c := st_one r.st.roots mb3
   have hu86 := Try.underlying98
   generalize hcs : (stCells r.st.roots mb3).toArray = CS at hrow hi86 hsz h1c
   have hg4 := grown_setRow wr sb CS
   have HG4 := Lib.hid (HRun.out.bk.grown hg4 (by simpa using fun e => hgsb e.symm))
   have HD4 := Lib.hid (HDr.out.grown hg4 (by simp; omega))
   have q23 : (wr.setRow sb CS).cell? ⟨g, 23, none⟩ = some (.int .i64 r.code) := (HG4.out.tail 2).trans rfl
   have q24 : (wr.setRow sb CS).cell? ⟨g, 24, none⟩ = some (.int .u64 r.val) := (HG4.out.tail 3).trans rfl
   have q25 : (wr.setRow sb CS).cell? ⟨g, 25, none⟩ = some (.int .i64 r.steps) := (HG4.out.tail 4).trans rfl
   have q26 : (wr.setRow sb CS).cell? ⟨g, 26, none⟩ = some (.int .i64 r.writes) := (HG4.out.tail 5).trans rfl
   have q27 : (wr.setRow sb CS).cell? ⟨g, 27, none⟩ = some nv3 := (HG4.out.tail 6).trans rfl
   rw [← HNV.out] at q27
   have m0 := HD4.out.cell 0
   have m1 := HD4.out.cell 1
   have m2 := HD4.out.cell 2
   have m3 := HD4.out.cell 3
   have m4 := HD4.out.cell 4
   have f0 := HD4.out.frozen 0
   have f1 := HD4.out.frozen 1
   have f2 := HD4.out.frozen 2
   have f3 := HD4.out.frozen 3
   have f4 := HD4.out.frozen 4
   simp at m0 m1 m2 m3 m4
   clear k25 k28 hg4
   go_wp2_with (first | refine wpList_load_row rfl 98 (.tmp 83) rfl sb3 rfl 98 CS (0, 0) _ hrow hu86 rfl hi86 ?_ | refine wpList_store_row rfl 98 (.tmp 85) (.tmp 84) rfl sb CS rfl rfl 98 _ hold hi86 hsz h1c ?_)
   refine bodyPost_ret (results_cell_row rfl _ _ (w.heap.size + 1) 80 _ (0, 0) _ rfl (HD4.out.five _ _ _ _ _) Try.underlying80 rfl (by kernel_rfl)) rfl ?_
   have hrp : runP s l [y0, y1, y2, y3] fuel maxw pick = r := by
    unfold runP; rw [if_pos HRI.out]; exact HO.out.eq
   rw [hrp]
   have hnv := HNV.out
   subst hnv
   have hg4 := grown_setRow wr sb CS
   have hg5 := grown_five (wr.setRow sb CS) (w.heap.size + 1) (.int .i64 r.code) (.int .u64 r.val) (.int .i64 r.steps) (.int .i64 r.writes) (.slice nA r.news.length nc)
   have hbz := HB2.out.size
   have hz2 := HZ2.out
   have hnb := HRun.out.nb
   have hbm := HRun.out.bm
   have hm3 : mb3 ≠ sb ∧ mb3 ≠ w.heap.size + 1 := by omega
   have haf : afterP s r = r.st := by unfold afterP; rw [if_pos HO.out.code]
   refine ⟨⟨_, mb3, rfl, ⟨?_, ?_, ?_, HSr.out.bs, ?_⟩, ?_, .inr (by omega), fun h => absurd HO.out.code h⟩, ?_, grown_two HBw.out hg4 hg5 (by omega)⟩
   ·have hb0 : Bk (wr.setRow sb CS) sb 98 CS := setRow_heap _ _ _ _ _ _ hold
    have hb1 := hb0.grown hg5 (by simp; omega)
    rw [haf]
    show Bk _ _ _ _
    rw [hcs]
    exact hb1
   ·rw [haf]
    exact ((HRun.out.map.kept hg4 (by simpa using hm3.1)).kept hg5 (by simpa using hm3.2)).mono (by omega)
   ·rw [haf]; exact HRun.out.roots
   ·have := HSr.out.bs; omega
   ·exact own_base (own_kept (own_kept HRun.out.news hg4 (by omega)) hg5 (by omega)) hbz
   ·rw [haf]; exact ⟨HO.out.ok.roots, HO.out.ok.blocks⟩
end Go.Proofs.Ytjggmimaolddkaa
namespace Go.Proofs.Ytjggmimaolddkaa
open Go.RowKit Go.Maps
set_option linter.unusedVariables false
def Val (D : DataW Unit) (f : Int → Option (List Int)) : Prop :=
 ∀ h, U64 h → (f h = none ∧ Maps.has D (.int .u64 h) = false) ∨ ∃ ws, f h = some ws ∧ ws.length = 8 ∧ Maps.has D (.int .u64 h) = true ∧ ∀ z, D.atKey (.int .u64 h) z = blkD ws
theorem u64_of_wf {x : Int} (h : (Lit.int .u64 x).wf = true) : U64 x := by
 simp [Lit.wf, IntKind.min, IntKind.max, IntKind.signed, IntKind.bits] at h
 exact h
section
variable {w : World} {P : Program} {K : TypeId} {b n : Nat} {D : DataW Unit}
theorem Val.got {f : Int → Option (List Int)} (v : Val D f) {x : Int} (hx : U64 x) (hh : Maps.has D (.int .u64 x) = true) : ∃ ws, f x = some ws ∧ ws.length = 8 ∧ ∀ z, D.atKey (.int .u64 x) z = blkD ws := by
 rcases v x hx with ⟨_, h0⟩ | ⟨ws, h1, h2, _, h4⟩
 ·rw [hh] at h0; cases h0
 ·exact ⟨ws, h1, h2, h4⟩
theorem Val.had {f : Int → Option (List Int)} (v : Val D f) {x : Int} (hx : U64 x) {ws : List Int} (hf : f x = some ws) : Maps.has D (.int .u64 x) = true ∧ ∀ z, D.atKey (.int .u64 x) z = blkD ws := by
 rcases v x hx with ⟨h0, _⟩ | ⟨ws', h1, _, h3, h4⟩
 ·rw [h0] at hf; cases hf
 ·rw [h1] at hf; cases hf; exact ⟨h3, h4⟩
end
section
variable {w w2 : World} {P : Program} {K : TypeId} {b b2 n n2 : Nat} {D1 D2 : DataW Unit} {f g : Int → Option (List Int)}
end
section
variable {P : Program}
theorem eqItems_u64 (w : World) (d : Nat) (e : TypeId) (he : P.underlying e = some (.int .u64)) (xs ys : List Int) : ∀ is : List Nat, (∀ i ∈ is, i < xs.length ∧ i < ys.length) →
 (Op.eqItems (d + 1) e 1 (xs.map (Value.int .u64)).toArray (ys.map (Value.int .u64)).toArray is).run P w = .ok (is.all fun i => xs.getD i 0 == ys.getD i 0) w
 | [], _ => by simp [Op.eqItems]
 | i :: is, h => by
   obtain ⟨hx, hy⟩ := h i (by simp)
   have px : (part e (xs.map (Value.int .u64)).toArray (i * 1)).run P w = .ok (.int .u64 (xs.getD i 0)) w := by
    simp [part, isAgg, run_underlying he, List.getD, List.getElem?_eq_getElem hx]
   have py : (part e (ys.map (Value.int .u64)).toArray (i * 1)).run P w = .ok (.int .u64 (ys.getD i 0)) w := by
    simp [part, isAgg, run_underlying he, List.getD, List.getElem?_eq_getElem hy]
   have ih := eqItems_u64 w d e he xs ys is (fun j hj => h j (by simp [hj]))
   simp only [Op.eqItems, Sem.run_bind, px, py, Result.andThen_ok, run_equalIn_int w d e .u64 .u64 _ _ he, List.all_cons]
   cases hb : (xs.getD i 0 == ys.getD i 0)
   ·simp
   ·simp only [Bool.not_true, Bool.false_eq_true, if_false, Bool.true_and]
    exact ih
theorem all_getD : ∀ (xs ys : List Int), xs.length = ys.length → ((List.range xs.length).all fun i => xs.getD i 0 == ys.getD i 0) = decide (xs = ys)
 | [], [], _ => by simp
 | x :: xs, y :: ys, h => by
   have ih := all_getD xs ys (by simpa using h)
   rw [List.length_cons, List.range_succ_eq_map, List.all_cons, List.all_map]
   simp only [List.getD_cons_zero, Function.comp_def, List.getD_cons_succ, ih]
   rw [Bool.eq_iff_iff]; simp
 | [], _ :: _, h => by simp at h
 | _ :: _, [], h => by simp at h
theorem equalIn_u64s (w : World) (d n : Nat) (t e : TypeId) (ht : P.underlying t = some (.array n e)) (he : P.underlying e = some (.int .u64)) {i : TypeInfo} (hi : P.info? e = some i) (hc : P.cellsOf e = 1) (xs ys : List Int) (hx : xs.length = n) (hy : ys.length = n) :
 (Op.equalIn (d + 2) t (.agg (xs.map (Value.int .u64)).toArray) (.agg (ys.map (Value.int .u64)).toArray)).run P w = .ok (decide (xs = ys)) w := by
 rw [run_equalIn_array w (d + 1) _ _ ht hi, hc, eqItems_u64 w d e he xs ys _ (fun i hi => by rw [List.mem_range] at hi; omega), ← all_getD xs ys (by omega), hx]
theorem neq_u64s (w : World) (n : Nat) (t e : TypeId) (ht : P.underlying t = some (.array n e)) (he : P.underlying e = some (.int .u64)) {i : TypeInfo} (hi : P.info? e = some i) (hc : P.cellsOf e = 1) (xs ys : List Int) (hx : xs.length = n) (hy : ys.length = n) :
 (binOp .neq t (.agg (xs.map (Value.int .u64)).toArray) (.agg (ys.map (Value.int .u64)).toArray)).run P w = .ok (.bool (!decide (xs = ys))) w := by
 rw [run_neq_struct, equalIn_u64s w 9998 n t e ht he hi hc xs ys hx hy]; rfl
end
end Go.Proofs.Ytjggmimaolddkaa
