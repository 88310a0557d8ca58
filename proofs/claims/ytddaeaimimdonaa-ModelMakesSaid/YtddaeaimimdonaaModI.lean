/-
  Chapter 6: contracts of State.Root, State.Block, State.Same.
-/
import Derived.Test.YtddaeaimimdonaaModF
import Derived.Test.YtddaeaimimdonaaMapC
import Derived.Maps.RangeWalk
import Derived.BigQuiet
import Derived.StillTailTactics
import Derived.Deep.QuietTactic
import Derived.Deep.RegionHeld3
import Derived.Laws.ResultCell
namespace Go.Proofs.Ytddaeaimimdonaa
open Go.RowKit Go.Maps
set_option linter.unusedVariables false

theorem results_row_tmp {P : Program} {fn : Func} {p u : Tmp} {ty : TypeId} (h : fn.results = #[.cell p ty, .tmp u]) (tmps : Array Value) (w : World) (g : Nat) (t : TypeId) (cs : Array Value) (fr : Nat × Nat) (d : TypeDesc)
    (hp : tmps.getD p undef = .pointer (some ⟨g, 0, none⟩)) (hg : w.heap[g]? = some (.cells cs t fr))
    (hu : P.underlying ty = some d) (hd : (match d with | .struct _ | .array _ _ => true | _ => false) = true) (hi : (P.info? ty).map (·.size) = some cs.size) :
    (results fn tmps).run P w = .ok (.tuple #[.agg cs, tmps.getD u undef]) w := by
  rw [results_cell_tmp h, hp]
  simp [asAddr, run_loadVar_row w g t ty cs fr d hg hu hd hi, Result.andThen]
def rootAt (s : MSt) (k : Int) : Int := if k < 0 ∨ 16 ≤ k then 0 else s.roots.getD k.toNat 0
set_option maxRecDepth 100000 in
set_option maxHeartbeats 4000000 in
theorem root_at (B n sb mb : Nat) (s : MSt) (k : Int) (w : World) (h : StIn w B n sb mb s) :
    Calls Try.prog 21 #[.pointer (some ⟨sb, 0, none⟩), .int .i64 k] w fun e w' => e = .returned (.int .u64 (rootAt s k)) ∧ w = w' := by
  by_cases h0 : k < 0
  · have HE : Hid (rootAt s k = 0) := by show _ = _; unfold rootAt; rw [if_pos (.inl h0)]
    go_enter Try.func21, Try.ntmps21
    go_wp2
    go_ret
    exact ⟨by rw [HE.out]; rfl, rfl⟩
  by_cases h1 : 16 ≤ k
  · have HE : Hid (rootAt s k = 0) := by show _ = _; unfold rootAt; rw [if_pos (.inr h1)]
    have hd : decide (k ≥ 16) = true := decide_eq_true h1
    go_enter Try.func21, Try.ntmps21
    go_wp2
    go_ret
    exact ⟨by rw [HE.out]; rfl, rfl⟩
  · obtain ⟨j, rfl⟩ : ∃ j : Nat, k = (j : Int) := ⟨k.toNat, by omega⟩
    have hj : j < 16 := by omega
    have HE : Hid (rootAt s j = s.roots.getD j 0) := by show _ = _; unfold rootAt; rw [if_neg (by omega)]; rfl
    have kR := h.st.root (k := j) (by rw [h.roots]; exact hj)
    have hd : decide ((j : Int) ≥ 16) = false := decide_eq_false h1
    generalize s.roots.getD j 0 = R at kR HE
    clear h
    go_enter Try.func21, Try.ntmps21
    go_wp2
    go_ret
    exact ⟨by rw [HE.out]; rfl, rfl⟩
def blockOf (s : MSt) (h : Int) : List Int := (s.blocks h).getD zero8
set_option maxRecDepth 100000 in
set_option maxHeartbeats 4000000 in
theorem block_any (B n sb mb : Nat) (s : MSt) (k : Int) (w : World) (h : StIn w B n sb mb s) (hk : U64 k) :
    Calls Try.prog 22 #[.pointer (some ⟨sb, 0, none⟩), .int .u64 k] w fun e w' => e = .returned (.tuple #[blkV (blockOf s k), .bool (s.blocks k).isSome]) ∧ Below w.heap.size w w' := by
  have h8 : (blockOf s k).length = 8 := by
    unfold blockOf
    cases hb : s.blocks k with
    | none => rfl
    | some ws => exact h.map.words hk hb
  have hlk0 := fun W (hW : OwnB W Try.prog 24 mb n s.blocks) => hW.look (t := 54) (e := 47) Try.underlying24 Try.underlying54 (zero_blk _) hk
  have hlk := hlk0 _ (h.map.alloc (.cells #[.int .u64 0, .int .u64 0, .int .u64 0, .int .u64 0, .int .u64 0, .int .u64 0, .int .u64 0, .int .u64 0] 47))
  have kM : (w.alloc (.cells #[.int .u64 0, .int .u64 0, .int .u64 0, .int .u64 0, .int .u64 0, .int .u64 0, .int .u64 0, .int .u64 0] 47)).cell? ⟨sb, 16, none⟩ = some (.map (some mb)) := by
    have := Bk.alloc h.st (.cells #[.int .u64 0, .int .u64 0, .int .u64 0, .int .u64 0, .int .u64 0, .int .u64 0, .int .u64 0, .int .u64 0] 47)
    exact BkS.map this h.roots
  change Sem.run _ _ _ = .ok (Value.tuple #[blkV (blockOf s k), .bool (s.blocks k).isSome]) _ at hlk
  obtain ⟨x0, x1, x2, x3, x4, x5, x6, x7, hws⟩ := eight h8
  rw [hws] at hlk ⊢
  generalize (s.blocks k).isSome = there at hlk ⊢
  simp only [blkV, List.map_cons, List.map_nil] at hlk ⊢
  have hu := Try.underlying47
  have hsb := h.st.lt
  clear h hlk0 h8 hws
  go_enter Try.func22, Try.ntmps22
  go_wp2_with fail
  refine bodyPost_ret (results_row_tmp rfl _ _ w.heap.size 47 _ (0, 0) _ rfl ((Bk.new w _ _).alloc _) hu rfl (by kernel_rfl)) rfl ⟨rfl, ?_⟩
  exact ((Below.refl _ _).alloc (Nat.le_refl _) _).alloc (by simp) _

/-- Two states are the same. -/
def SameSt (s o : MSt) : Prop := s.roots = o.roots ∧ ∀ h, U64 h → s.blocks h = o.blocks h
theorem blkR_lits {c : Value} {y : DataW Unit × List MemPlace} (h : blkR c = some y) : ∃ x0 x1 x2 x3 x4 x5 x6 x7 : Int, c = .agg #[.int .u64 x0, .int .u64 x1, .int .u64 x2, .int .u64 x3, .int .u64 x4, .int .u64 x5, .int .u64 x6, .int .u64 x7] ∧ y.1 = blkD [x0, x1, x2, x3, x4, x5, x6, x7] := by
  obtain ⟨ws, h8, rfl, rfl⟩ := blkR_inv h
  obtain ⟨x0, x1, x2, x3, x4, x5, x6, x7, rfl⟩ := eight h8
  exact ⟨x0, x1, x2, x3, x4, x5, x6, x7, rfl, rfl⟩
set_option maxRecDepth 100000 in
set_option maxHeartbeats 8000000 in
theorem mequal_any (b1 b2 n1 n2 : Nat) (f g : Int → Option (List Int)) (w : World) (h1 : OwnB w Try.prog 24 b1 n1 f) (h2 : OwnB w Try.prog 24 b2 n2 g) :
    Calls Try.prog 40 #[.map (some b1), .map (some b2)] w fun e w' => ∃ r : Bool, e = .returned (.bool r) ∧ (r = true ↔ ∀ x, U64 x → f x = g x) ∧ w.grownBy w' none := by
  obtain ⟨D1, o1, v1'⟩ := h1
  obtain ⟨D2, o2, v2'⟩ := h2
  have v1 : Val D1 f := v1'
  have v2 : Val D2 g := v2'
  clear v1' v2'
  have l1 := fun ty => o1.len (t := 54) Try.underlying54 ty
  have l2 := fun ty => o2.len (t := 54) Try.underlying54 ty
  have HV1 := Lib.hid v1
  have HV2 := Lib.hid v2
  have HO1 := Lib.hid o1
  have HO2 := Lib.hid o2
  have hKu := Try.underlying24
  by_cases hsz : Maps.size D1 = Maps.size D2
  · have HSZ := Lib.hid hsz
    rw [hsz] at l1
    clear hsz v1 v2
    go_enter Try.func40, Try.ntmps40
    go_wp2_with (first
      | (at_range; refine wpList_range_own _ rfl _ 54 rfl 24 47 (int_keyed hKu) Try.underlying54 blkR b1 n1 _ rfl o1 ?_; intro w0 hrg0 hg0 hs0)
      | go_in)
    go_frame
    go_loopw [18] (fun _ wr => ∃ (left : Lit → Bool) (cnt : Nat), wr.ranges Try.prog 24 blkR b1 w.heap.size n1 D1 left cnt ∧ wr.ownsMap Try.prog 24 blkR b2 n2 D2 ∧ w.grownBy wr none ∧ Hid (∀ x, U64 x → Maps.has D1 (.int .u64 x) = true → left (.int .u64 x) = false → g x = f x))
      (fun _ wr => wr.rangeLeft b1 w.heap.size)
    case atStart => exact ⟨_, _, hrg0, o2.kept hg0 (by simp), hg0, fun x _ hx hl => by rw [hx] at hl; cases hl⟩
    case round =>
      obtain ⟨left, cnt, hrg, h2r, hgw, G⟩ := hrel
      go_wp2_with (first
        | (at_next; refine wpList_next_ranges _ rfl _ rfl 24 (int_keyed hKu) blkR id id (fun key _ _ => ⟨key, rfl⟩) (fun v _ _ => ⟨v, rfl⟩) b1 w.heap.size n1 _ _ _ rfl hrg ?_ ?_)
        | go_in)
      · intro _ hl0
        go_wp2
        go_ret
        refine ⟨true, rfl, ⟨fun _ => all_of_size HO1.out HO2.out hKu HV1.out HV2.out HSZ.out fun x hx ws hf => ?_, fun _ => rfl⟩, hgw⟩
        rw [G.out x hx (HV1.out.had hx hf).1 (hl0 _), hf]
      · intro x c kl yd yp w1 cnt1 hkey hlx hv hat hrg1 hlt hg1 hs1 hen
        obtain ⟨k, rfl, rfl, hkw⟩ := Maps.keyOf_int_inv hKu hkey
        obtain ⟨x0, x1, x2, x3, x4, x5, x6, x7, rfl, hy⟩ := blkR_lits hv
        have hk := u64_of_wf hkw
        have hgw1 : w.grownBy w1 none := hgw.andThen hg1 (fun j hj => by cases hj; exact Or.inl (Nat.le_refl _))
        have h2w1 := h2r.kept hg1 (fun e => by have := Option.some.inj e; have := HO2.out.lt; omega)
        have hf : Hid (f k = some [x0, x1, x2, x3, x4, x5, x6, x7]) := by
          show _ = _
          obtain ⟨ws, e1, e2, e3⟩ := HV1.out.got hk (by
            cases hh : Maps.has D1 (.int .u64 k) with
            | true => rfl
            | false => exact absurd (Maps.has_true_of_atKey hat) (by rw [hh]; simp))
          have := (e3 (blkD zero8)).symm.trans (hat (blkD zero8))
          rw [show (yd : DataW Unit) = blkD [x0, x1, x2, x3, x4, x5, x6, x7] from hy] at this
          rw [e1, blkD_inj this]
        have ho2 : OwnB (w1.alloc (.cells #[.int .u64 x0, .int .u64 x1, .int .u64 x2, .int .u64 x3, .int .u64 x4, .int .u64 x5, .int .u64 x6, .int .u64 x7] 47)) Try.prog 24 b2 n2 g := ⟨D2, h2w1.alloc _, HV2.out⟩
        have hlk := ho2.look (t := 54) (e := 47) Try.underlying24 Try.underlying54 (zero_blk _) hk
        clear ho2
        have HRG1 := Lib.hid hrg1
        have H2W1 := Lib.hid h2w1
        have HGW1 := Lib.hid hgw1
        have HLT := Lib.hid hlt
        have HAT := Lib.hid hat
        have HRG := Lib.hid hrg
        clear hrg1 h2w1 hgw1 hlt hat hrg h2r hgw hg1 hy hv hkey
        cases hgk : g k with
        | none =>
          rw [hgk] at hlk
          simp only [Option.getD_none, Option.isSome_none, blkV, zero8, List.map_cons, List.map_nil] at hlk
          have HGK := Lib.hid hgk
          clear hgk
          go_wp2
          go_ret
          refine ⟨false, rfl, ⟨fun h => absurd h (by decide), fun h => ?_⟩, (HGW1.out.trans (World.grownBy_alloc _ _ none)).trans (World.grownBy_alloc _ _ none)⟩
          have := h k hk
          rw [hf.out, HGK.out] at this
          cases this
        | some ws =>
          rw [hgk] at hlk
          have h8 : ws.length = 8 := by
            obtain ⟨ws', e1, e2, _⟩ := HV2.out.got hk (HV2.out.had hk hgk).1
            rw [hgk] at e1; cases e1; exact e2
          obtain ⟨z0, z1, z2, z3, z4, z5, z6, z7, rfl⟩ := eight h8
          simp only [Option.getD_some, Option.isSome_some, blkV, List.map_cons, List.map_nil] at hlk
          have HGK := Lib.hid hgk
          obtain ⟨i24, hi24⟩ : ∃ i, Try.prog.info? 24 = some i := Option.isSome_iff_exists.1 (by kernel_rfl)
          have hc24 : Try.prog.cellsOf 24 = 1 := by kernel_rfl
          have hne := fun W => neq_u64s (P := Try.prog) W 8 47 24 Try.underlying47 hKu hi24 hc24 [x0, x1, x2, x3, x4, x5, x6, x7] [z0, z1, z2, z3, z4, z5, z6, z7] rfl rfl
          simp only [List.map_cons, List.map_nil] at hne
          clear hi24 hc24
          have hm : Try.prog.eqGuardType Try.prog.depth 47 = false := by kernel_rfl
          have HD : Hid (decide ([x0, x1, x2, x3, x4, x5, x6, x7] = [z0, z1, z2, z3, z4, z5, z6, z7]) = decide (f k = g k)) := by
            show _ = _
            rw [hf.out, HGK.out]; simp
          rw [HD.out] at hne
          clear hgk h8
          cases hd : decide (f k = g k)
          · rw [hd] at hne
            have HDD := Lib.hid hd
            clear hd
            go_wp2
            go_ret
            refine ⟨false, rfl, ⟨fun h => absurd h (by decide), fun h => ?_⟩, (HGW1.out.trans (World.grownBy_alloc _ _ none)).trans (World.grownBy_alloc _ _ none)⟩
            exact absurd (h k hk) (of_decide_eq_false HDD.out)
          · rw [hd] at hne
            have HDD := Lib.hid hd
            clear hd
            go_wp2
            go_roundw
            case rel =>
              refine ⟨_, cnt1, (HRG1.out.alloc _).alloc _, (H2W1.out.alloc _).alloc _, (HGW1.out.trans (World.grownBy_alloc _ _ none)).trans (World.grownBy_alloc _ _ none), fun x hx hh hl => ?_⟩
              cases hlx2 : left (.int .u64 x)
              · exact G.out x hx hh hlx2
              · have hs : (Lit.int .u64 x).sameKey (.int .u64 k) = true := by
                  have hl : (left (.int .u64 x) && !(Lit.int .u64 x).sameKey (.int .u64 k)) = false := hl
                  rw [hlx2] at hl
                  simpa using hl
                have := WideAt.sameKey_eq hs
                injection this with _ this
                rw [this]; exact (of_decide_eq_true HDD.out).symm
            case measure => rw [((HRG1.out.alloc _).alloc _).left_eq, HRG.out.left_eq]; exact HLT.out
  · have hne : ¬ ((Maps.size D1 : Int) = (Maps.size D2 : Int)) := fun e => hsz (by exact_mod_cast e)
    have HSZ := Lib.hid hsz
    clear v1 v2 o1 o2 hsz
    go_enter Try.func40, Try.ntmps40
    go_wp2
    go_ret
    refine ⟨false, rfl, ⟨fun h => absurd h (by decide), fun h => ?_⟩, World.grownBy.refl _ _⟩
    exact absurd (congrArg Maps.size (eq_of_val HO1.out HO2.out hKu HV1.out HV2.out h)) HSZ.out
set_option maxRecDepth 100000 in
set_option maxHeartbeats 8000000 in
theorem stsame_any (B n sb mb : Nat) (s : MSt) (B' n' sb' mb' : Nat) (o : MSt) (w : World) (h : StIn w B n sb mb s) (h' : StIn w B' n' sb' mb' o) :
    Calls Try.prog 23 #[.pointer (some ⟨sb, 0, none⟩), .pointer (some ⟨sb', 0, none⟩)] w fun e w' => ∃ r : Bool, e = .returned (.bool r) ∧ (r = true ↔ SameSt s o) ∧ w.grownBy w' none := by
  have HS := Lib.hid h
  have HS' := Lib.hid h'
  obtain ⟨z0, z1, z2, z3, z4, z5, z6, z7, z8, z9, z10, z11, z12, z13, z14, z15, hz⟩ := sixteen h.roots
  obtain ⟨y0, y1, y2, y3, y4, y5, y6, y7, y8, y9, y10, y11, y12, y13, y14, y15, hy⟩ := sixteen h'.roots
  have HZ := Lib.hid hz
  have HY := Lib.hid hy
  have d0 : w.rangeAt sb 0 (u64s [z0, z1, z2, z3, z4, z5, z6, z7, z8, z9, z10, z11, z12, z13, z14, z15]) := by rw [← hz]; exact h.rangeAt
  have d1 : w.cell? ⟨sb, 16, none⟩ = some (.map (some mb)) := h.st.map h.roots
  have d2 : w.rangeAt sb' 0 (u64s [y0, y1, y2, y3, y4, y5, y6, y7, y8, y9, y10, y11, y12, y13, y14, y15]) := by rw [← hy]; exact h'.rangeAt
  have d3 : w.cell? ⟨sb', 16, none⟩ = some (.map (some mb')) := h'.st.map h'.roots
  have c0 : w.cell? ⟨sb, 0, none⟩ = some (.int .u64 z0) := by simpa using d0 0 _ rfl
  have c1 : w.cell? ⟨sb, 1, none⟩ = some (.int .u64 z1) := by simpa using d0 1 _ rfl
  have c2 : w.cell? ⟨sb, 2, none⟩ = some (.int .u64 z2) := by simpa using d0 2 _ rfl
  have c3 : w.cell? ⟨sb, 3, none⟩ = some (.int .u64 z3) := by simpa using d0 3 _ rfl
  have c4 : w.cell? ⟨sb, 4, none⟩ = some (.int .u64 z4) := by simpa using d0 4 _ rfl
  have c5 : w.cell? ⟨sb, 5, none⟩ = some (.int .u64 z5) := by simpa using d0 5 _ rfl
  have c6 : w.cell? ⟨sb, 6, none⟩ = some (.int .u64 z6) := by simpa using d0 6 _ rfl
  have c7 : w.cell? ⟨sb, 7, none⟩ = some (.int .u64 z7) := by simpa using d0 7 _ rfl
  have c8 : w.cell? ⟨sb, 8, none⟩ = some (.int .u64 z8) := by simpa using d0 8 _ rfl
  have c9 : w.cell? ⟨sb, 9, none⟩ = some (.int .u64 z9) := by simpa using d0 9 _ rfl
  have c10 : w.cell? ⟨sb, 10, none⟩ = some (.int .u64 z10) := by simpa using d0 10 _ rfl
  have c11 : w.cell? ⟨sb, 11, none⟩ = some (.int .u64 z11) := by simpa using d0 11 _ rfl
  have c12 : w.cell? ⟨sb, 12, none⟩ = some (.int .u64 z12) := by simpa using d0 12 _ rfl
  have c13 : w.cell? ⟨sb, 13, none⟩ = some (.int .u64 z13) := by simpa using d0 13 _ rfl
  have c14 : w.cell? ⟨sb, 14, none⟩ = some (.int .u64 z14) := by simpa using d0 14 _ rfl
  have c15 : w.cell? ⟨sb, 15, none⟩ = some (.int .u64 z15) := by simpa using d0 15 _ rfl
  have k0 : w.cell? ⟨sb', 0, none⟩ = some (.int .u64 y0) := by simpa using d2 0 _ rfl
  have k1 : w.cell? ⟨sb', 1, none⟩ = some (.int .u64 y1) := by simpa using d2 1 _ rfl
  have k2 : w.cell? ⟨sb', 2, none⟩ = some (.int .u64 y2) := by simpa using d2 2 _ rfl
  have k3 : w.cell? ⟨sb', 3, none⟩ = some (.int .u64 y3) := by simpa using d2 3 _ rfl
  have k4 : w.cell? ⟨sb', 4, none⟩ = some (.int .u64 y4) := by simpa using d2 4 _ rfl
  have k5 : w.cell? ⟨sb', 5, none⟩ = some (.int .u64 y5) := by simpa using d2 5 _ rfl
  have k6 : w.cell? ⟨sb', 6, none⟩ = some (.int .u64 y6) := by simpa using d2 6 _ rfl
  have k7 : w.cell? ⟨sb', 7, none⟩ = some (.int .u64 y7) := by simpa using d2 7 _ rfl
  have k8 : w.cell? ⟨sb', 8, none⟩ = some (.int .u64 y8) := by simpa using d2 8 _ rfl
  have k9 : w.cell? ⟨sb', 9, none⟩ = some (.int .u64 y9) := by simpa using d2 9 _ rfl
  have k10 : w.cell? ⟨sb', 10, none⟩ = some (.int .u64 y10) := by simpa using d2 10 _ rfl
  have k11 : w.cell? ⟨sb', 11, none⟩ = some (.int .u64 y11) := by simpa using d2 11 _ rfl
  have k12 : w.cell? ⟨sb', 12, none⟩ = some (.int .u64 y12) := by simpa using d2 12 _ rfl
  have k13 : w.cell? ⟨sb', 13, none⟩ = some (.int .u64 y13) := by simpa using d2 13 _ rfl
  have k14 : w.cell? ⟨sb', 14, none⟩ = some (.int .u64 y14) := by simpa using d2 14 _ rfl
  have k15 : w.cell? ⟨sb', 15, none⟩ = some (.int .u64 y15) := by simpa using d2 15 _ rfl
  clear d0 d2
  have hu52 := Try.underlying52
  obtain ⟨i24, hi24⟩ : ∃ i, Try.prog.info? 24 = some i := Option.isSome_iff_exists.1 (by kernel_rfl)
  have hc24 : Try.prog.cellsOf 24 = 1 := by kernel_rfl
  have heq := fun W => eql_u64s (P := Try.prog) W 16 52 24 hu52 Try.underlying24 hi24 hc24 [z0, z1, z2, z3, z4, z5, z6, z7, z8, z9, z10, z11, z12, z13, z14, z15] [y0, y1, y2, y3, y4, y5, y6, y7, y8, y9, y10, y11, y12, y13, y14, y15] rfl rfl
  simp only [List.map_cons, List.map_nil] at heq
  have hm : Try.prog.eqGuardType Try.prog.depth 52 = false := by kernel_rfl
  have HD : Hid (decide ([z0, z1, z2, z3, z4, z5, z6, z7, z8, z9, z10, z11, z12, z13, z14, z15] = [y0, y1, y2, y3, y4, y5, y6, y7, y8, y9, y10, y11, y12, y13, y14, y15]) = decide (s.roots = o.roots)) := by
    show _ = _
    rw [HZ.out, HY.out]
  rw [HD.out] at heq
  clear hi24 hc24 hz hy h h'
  cases hd : decide (s.roots = o.roots)
  · rw [hd] at heq
    have HDD := Lib.hid hd
    clear hd
    go_enter Try.func23, Try.ntmps23
    go_wp2_with fail
    go_quiet (fail)
    go_wp2
    go_ret
    exact ⟨false, rfl, ⟨fun h => absurd h (by decide), fun h => absurd h.1 (of_decide_eq_false HDD.out)⟩, grown_drewN _ _ _⟩
  · rw [hd] at heq
    have HDD := Lib.hid hd
    clear hd
    go_enter Try.func23, Try.ntmps23
    go_wp2_with fail
    go_still_tail 18, (by kernel_rfl)
    change wpList _ _ _ _ _ w.drew
    have HSd : Hid (StIn w.drew B n sb mb s) := HS.out.more (grown_drew _ _)
    have HSd' : Hid (StIn w.drew B' n' sb' mb' o) := HS'.out.more (grown_drew _ _)
    have HGd : Hid (w.grownBy w.drew none) := grown_drew _ _
    generalize w.drew = w2 at HSd HSd' HGd ⊢
    go_wp2_with fail
    refine (mequal_any mb mb' n n' s.blocks o.blocks _ HSd.out.map HSd'.out.map).mono ?_
    rintro e wn ⟨r, rfl, hr, hgn⟩
    have HRr := Lib.hid hr
    have HGn := Lib.hid (HGd.out.trans hgn)
    clear hr hgn
    go_wp2
    go_ret
    exact ⟨r, rfl, ⟨fun h => ⟨of_decide_eq_true HDD.out, HRr.out.1 h⟩, fun h => HRr.out.2 h.2⟩, HGn.out⟩
end Go.Proofs.Ytddaeaimimdonaa
