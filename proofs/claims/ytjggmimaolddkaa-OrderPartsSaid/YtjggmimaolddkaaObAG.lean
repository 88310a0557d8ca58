/-
  Texts of one proof, joined (wip/gen/pack.py): ModI, ModM, ModN, Srt0, SrtA.
-/
import Derived.Test.YtjggmimaolddkaaObAF
import Derived.Maps.RangeWalk
import Derived.BigQuiet
import Derived.StillTailTactics
import Derived.Deep.QuietTactic
import Derived.Deep.RegionHeld3
import Derived.Laws.ResultCell
import Derived.Test.YtjggmimaolddkaaObAC
import Derived.Maps.AppendAt
import Derived.RangeFuncFrom
import Derived.RangeFuncBox
import Derived.RangeFuncStops
import Derived.Sort.MapsRangeIn
import Derived.OwnWalkIn
import Derived.TacticsInMore
import Derived.RegionIn
import Derived.LoopNIn
import Derived.LoopIn
import Derived.Test.YtjggmimaolddkaaRows
import Derived.Sort.Walk0
import Derived.WalkKit
import Derived.Sort.WalkA
import Derived.Sort.WalkA6
namespace Go.Proofs.Ytjggmimaolddkaa
open Go.RowKit Go.Maps
set_option linter.unusedVariables false

theorem results_row_tmp {P : Program} {fn : Func} {p u : Tmp} {ty : TypeId} (h : fn.results = #[.cell p ty, .tmp u]) (tmps : Array Value) (w : World) (g : Nat) (t : TypeId) (cs : Array Value) (fr : Nat × Nat) (d : TypeDesc)
    (hp : tmps.getD p undef = .pointer (some ⟨g, 0, none⟩)) (hg : w.heap[g]? = some (.cells cs t fr))
    (hu : P.underlying ty = some d) (hd : (match d with | .struct _ | .array _ _ => true | _ => false) = true) (hi : (P.info? ty).map (·.size) = some cs.size) :
    (results fn tmps).run P w = .ok (.tuple #[.agg cs, tmps.getD u undef]) w := by
  rw [results_cell_tmp h, hp]
  simp [asAddr, run_loadVar_row w g t ty cs fr d hg hu hd hi, Result.andThen]
def rootAt (s : MSt) (k : Int) : Int := if k < 0 ∨ 16 ≤ k then 0 else s.roots.getD k.toNat 0
set_option maxRecDepth 100000 in
set_option maxHeartbeats 4000000 in
theorem root_at (B n sb mb : Nat) (s : MSt) (k : Int) (w : World) (h : StIn w B n sb mb s) :
    Calls Try.prog 17 #[.pointer (some ⟨sb, 0, none⟩), .int .i64 k] w fun e w' => e = .returned (.int .u64 (rootAt s k)) ∧ w = w' := by
  by_cases h0 : k < 0
  · have HE : Hid (rootAt s k = 0) := by show _ = _; unfold rootAt; rw [if_pos (.inl h0)]
    go_enter Try.func17, Try.ntmps17
    go_wp2
    go_ret
    exact ⟨by rw [HE.out]; rfl, rfl⟩
  by_cases h1 : 16 ≤ k
  · have HE : Hid (rootAt s k = 0) := by show _ = _; unfold rootAt; rw [if_pos (.inr h1)]
    have hd : decide (k ≥ 16) = true := decide_eq_true h1
    go_enter Try.func17, Try.ntmps17
    go_wp2
    go_ret
    exact ⟨by rw [HE.out]; rfl, rfl⟩
  · obtain ⟨j, rfl⟩ : ∃ j : Nat, k = (j : Int) := ⟨k.toNat, by omega⟩
    have hj : j < 16 := by omega
    have HE : Hid (rootAt s j = s.roots.getD j 0) := by show _ = _; unfold rootAt; rw [if_neg (by omega)]; rfl
    have kR := h.st.root (k := j) (by rw [h.roots]; exact hj)
    have hd : decide ((j : Int) ≥ 16) = false := decide_eq_false h1
    generalize s.roots.getD j 0 = R at kR HE
    clear h
    go_enter Try.func17, Try.ntmps17
    go_wp2
    go_ret
    exact ⟨by rw [HE.out]; rfl, rfl⟩
def blockOf (s : MSt) (h : Int) : List Int := (s.blocks h).getD zero8
set_option maxRecDepth 100000 in
set_option maxHeartbeats 4000000 in
theorem block_any (B n sb mb : Nat) (s : MSt) (k : Int) (w : World) (h : StIn w B n sb mb s) (hk : U64 k) :
    Calls Try.prog 29 #[.pointer (some ⟨sb, 0, none⟩), .int .u64 k] w fun e w' => e = .returned (.tuple #[blkV (blockOf s k), .bool (s.blocks k).isSome]) ∧ Below w.heap.size w w' := by
  have h8 : (blockOf s k).length = 8 := by
    unfold blockOf
    cases hb : s.blocks k with
    | none => rfl
    | some ws => exact h.map.words hk hb
  have hlk0 := fun W (hW : OwnB W Try.prog 31 mb n s.blocks) => hW.look (t := 96) (e := 91) Try.underlying31 Try.underlying96 (zero_blk _) hk
  have hlk := hlk0 _ (h.map.alloc (.cells #[.int .u64 0, .int .u64 0, .int .u64 0, .int .u64 0, .int .u64 0, .int .u64 0, .int .u64 0, .int .u64 0] 91))
  have kM : (w.alloc (.cells #[.int .u64 0, .int .u64 0, .int .u64 0, .int .u64 0, .int .u64 0, .int .u64 0, .int .u64 0, .int .u64 0] 91)).cell? ⟨sb, 16, none⟩ = some (.map (some mb)) := by
    have := Bk.alloc h.st (.cells #[.int .u64 0, .int .u64 0, .int .u64 0, .int .u64 0, .int .u64 0, .int .u64 0, .int .u64 0, .int .u64 0] 91)
    exact BkS.map this h.roots
  change Sem.run _ _ _ = .ok (Value.tuple #[blkV (blockOf s k), .bool (s.blocks k).isSome]) _ at hlk
  obtain ⟨x0, x1, x2, x3, x4, x5, x6, x7, hws⟩ := eight h8
  rw [hws] at hlk ⊢
  generalize (s.blocks k).isSome = there at hlk ⊢
  simp only [blkV, List.map_cons, List.map_nil] at hlk ⊢
  have hu := Try.underlying91
  have hsb := h.st.lt
  clear h hlk0 h8 hws
  go_enter Try.func29, Try.ntmps29
  go_wp2_with fail
  refine bodyPost_ret (results_row_tmp rfl _ _ w.heap.size 91 _ (0, 0) _ rfl ((Bk.new w _ _).alloc _) hu rfl (by kernel_rfl)) rfl ⟨rfl, ?_⟩
  exact ((Below.refl _ _).alloc (Nat.le_refl _) _).alloc (by simp) _

/-- Two states are the same. -/
def SameSt (s o : MSt) : Prop := s.roots = o.roots ∧ ∀ h, U64 h → s.blocks h = o.blocks h
theorem blkR_lits {c : Value} {y : DataW Unit × List MemPlace} (h : blkR c = some y) : ∃ x0 x1 x2 x3 x4 x5 x6 x7 : Int, c = .agg #[.int .u64 x0, .int .u64 x1, .int .u64 x2, .int .u64 x3, .int .u64 x4, .int .u64 x5, .int .u64 x6, .int .u64 x7] ∧ y.1 = blkD [x0, x1, x2, x3, x4, x5, x6, x7] := by
  obtain ⟨ws, h8, rfl, rfl⟩ := blkR_inv h
  obtain ⟨x0, x1, x2, x3, x4, x5, x6, x7, rfl⟩ := eight h8
  exact ⟨x0, x1, x2, x3, x4, x5, x6, x7, rfl, rfl⟩
set_option maxRecDepth 100000 in
set_option maxHeartbeats 8000000 in
theorem mequal_any (b1 b2 n1 n2 : Nat) (f g : Int → Option (List Int)) (w : World) (h1 : OwnB w Try.prog 31 b1 n1 f) (h2 : OwnB w Try.prog 31 b2 n2 g) :
    Calls Try.prog 30 #[.map (some b1), .map (some b2)] w fun e w' => ∃ r : Bool, e = .returned (.bool r) ∧ (r = true ↔ ∀ x, U64 x → f x = g x) ∧ w.grownBy w' none := by
  obtain ⟨D1, o1, v1'⟩ := h1
  obtain ⟨D2, o2, v2'⟩ := h2
  have v1 : Val D1 f := v1'
  have v2 : Val D2 g := v2'
  clear v1' v2'
  have l1 := fun ty => o1.len (t := 96) Try.underlying96 ty
  have l2 := fun ty => o2.len (t := 96) Try.underlying96 ty
  have HV1 := Lib.hid v1
  have HV2 := Lib.hid v2
  have HO1 := Lib.hid o1
  have HO2 := Lib.hid o2
  have hKu := Try.underlying31
  by_cases hsz : Maps.size D1 = Maps.size D2
  · have HSZ := Lib.hid hsz
    rw [hsz] at l1
    clear hsz v1 v2
    go_enter Try.func30, Try.ntmps30
    go_wp2_with (first
      | (at_range; refine wpList_range_own _ rfl _ 96 rfl 31 91 (int_keyed hKu) Try.underlying96 blkR b1 n1 _ rfl o1 ?_; intro w0 hrg0 hg0 hs0)
      | go_in)
    go_frame
    go_loopw [18] (fun _ wr => ∃ (left : Lit → Bool) (cnt : Nat), wr.ranges Try.prog 31 blkR b1 w.heap.size n1 D1 left cnt ∧ wr.ownsMap Try.prog 31 blkR b2 n2 D2 ∧ w.grownBy wr none ∧ Hid (∀ x, U64 x → Maps.has D1 (.int .u64 x) = true → left (.int .u64 x) = false → g x = f x))
      (fun _ wr => wr.rangeLeft b1 w.heap.size)
    case atStart => exact ⟨_, _, hrg0, o2.kept hg0 (by simp), hg0, fun x _ hx hl => by rw [hx] at hl; cases hl⟩
    case round =>
      obtain ⟨left, cnt, hrg, h2r, hgw, G⟩ := hrel
      go_wp2_with (first
        | (at_next; refine wpList_next_ranges _ rfl _ rfl 31 (int_keyed hKu) blkR id id (fun key _ _ => ⟨key, rfl⟩) (fun v _ _ => ⟨v, rfl⟩) b1 w.heap.size n1 _ _ _ rfl hrg ?_ ?_)
        | go_in)
      · intro _ hl0
        go_wp2
        go_ret
        refine ⟨true, rfl, ⟨fun _ => all_of_size HO1.out HO2.out hKu HV1.out HV2.out HSZ.out fun x hx ws hf => ?_, fun _ => rfl⟩, hgw⟩
        rw [G.out x hx (HV1.out.had hx hf).1 (hl0 _), hf]
      · intro x c kl yd yp w1 cnt1 hkey hlx hv hat hrg1 hlt hg1 hs1 hen
        obtain ⟨k, rfl, rfl, hkw⟩ := Maps.keyOf_int_inv hKu hkey
        obtain ⟨x0, x1, x2, x3, x4, x5, x6, x7, rfl, hy⟩ := blkR_lits hv
        have hk := u64_of_wf hkw
        have hgw1 : w.grownBy w1 none := hgw.andThen hg1 (fun j hj => by cases hj; exact Or.inl (Nat.le_refl _))
        have h2w1 := h2r.kept hg1 (fun e => by have := Option.some.inj e; have := HO2.out.lt; omega)
        have hf : Hid (f k = some [x0, x1, x2, x3, x4, x5, x6, x7]) := by
          show _ = _
          obtain ⟨ws, e1, e2, e3⟩ := HV1.out.got hk (by
            cases hh : Maps.has D1 (.int .u64 k) with
            | true => rfl
            | false => exact absurd (Maps.has_true_of_atKey hat) (by rw [hh]; simp))
          have := (e3 (blkD zero8)).symm.trans (hat (blkD zero8))
          rw [show (yd : DataW Unit) = blkD [x0, x1, x2, x3, x4, x5, x6, x7] from hy] at this
          rw [e1, blkD_inj this]
        have ho2 : OwnB (w1.alloc (.cells #[.int .u64 x0, .int .u64 x1, .int .u64 x2, .int .u64 x3, .int .u64 x4, .int .u64 x5, .int .u64 x6, .int .u64 x7] 91)) Try.prog 31 b2 n2 g := ⟨D2, h2w1.alloc _, HV2.out⟩
        have hlk := ho2.look (t := 96) (e := 91) Try.underlying31 Try.underlying96 (zero_blk _) hk
        clear ho2
        have HRG1 := Lib.hid hrg1
        have H2W1 := Lib.hid h2w1
        have HGW1 := Lib.hid hgw1
        have HLT := Lib.hid hlt
        have HAT := Lib.hid hat
        have HRG := Lib.hid hrg
        clear hrg1 h2w1 hgw1 hlt hat hrg h2r hgw hg1 hy hv hkey
        cases hgk : g k with
        | none =>
          rw [hgk] at hlk
          simp only [Option.getD_none, Option.isSome_none, blkV, zero8, List.map_cons, List.map_nil] at hlk
          have HGK := Lib.hid hgk
          clear hgk
          go_wp2
          go_ret
          refine ⟨false, rfl, ⟨fun h => absurd h (by decide), fun h => ?_⟩, (HGW1.out.trans (World.grownBy_alloc _ _ none)).trans (World.grownBy_alloc _ _ none)⟩
          have := h k hk
          rw [hf.out, HGK.out] at this
          cases this
        | some ws =>
          rw [hgk] at hlk
          have h8 : ws.length = 8 := by
            obtain ⟨ws', e1, e2, _⟩ := HV2.out.got hk (HV2.out.had hk hgk).1
            rw [hgk] at e1; cases e1; exact e2
          obtain ⟨z0, z1, z2, z3, z4, z5, z6, z7, rfl⟩ := eight h8
          simp only [Option.getD_some, Option.isSome_some, blkV, List.map_cons, List.map_nil] at hlk
          have HGK := Lib.hid hgk
          obtain ⟨i24, hi24⟩ : ∃ i, Try.prog.info? 31 = some i := Option.isSome_iff_exists.1 (by kernel_rfl)
          have hc24 : Try.prog.cellsOf 31 = 1 := by kernel_rfl
          have hne := fun W => neq_u64s (P := Try.prog) W 8 91 31 Try.underlying91 hKu hi24 hc24 [x0, x1, x2, x3, x4, x5, x6, x7] [z0, z1, z2, z3, z4, z5, z6, z7] rfl rfl
          simp only [List.map_cons, List.map_nil] at hne
          clear hi24 hc24
          have hm : Try.prog.eqGuardType Try.prog.depth 91 = false := by kernel_rfl
          have HD : Hid (decide ([x0, x1, x2, x3, x4, x5, x6, x7] = [z0, z1, z2, z3, z4, z5, z6, z7]) = decide (f k = g k)) := by
            show _ = _
            rw [hf.out, HGK.out]; simp
          rw [HD.out] at hne
          clear hgk h8
          cases hd : decide (f k = g k)
          · rw [hd] at hne
            have HDD := Lib.hid hd
            clear hd
            go_wp2
            go_ret
            refine ⟨false, rfl, ⟨fun h => absurd h (by decide), fun h => ?_⟩, (HGW1.out.trans (World.grownBy_alloc _ _ none)).trans (World.grownBy_alloc _ _ none)⟩
            exact absurd (h k hk) (of_decide_eq_false HDD.out)
          · rw [hd] at hne
            have HDD := Lib.hid hd
            clear hd
            go_wp2
            go_roundw
            case rel =>
              refine ⟨_, cnt1, (HRG1.out.alloc _).alloc _, (H2W1.out.alloc _).alloc _, (HGW1.out.trans (World.grownBy_alloc _ _ none)).trans (World.grownBy_alloc _ _ none), fun x hx hh hl => ?_⟩
              cases hlx2 : left (.int .u64 x)
              · exact G.out x hx hh hlx2
              · have hs : (Lit.int .u64 x).sameKey (.int .u64 k) = true := by
                  have hl : (left (.int .u64 x) && !(Lit.int .u64 x).sameKey (.int .u64 k)) = false := hl
                  rw [hlx2] at hl
                  simpa using hl
                have := WideAt.sameKey_eq hs
                injection this with _ this
                rw [this]; exact (of_decide_eq_true HDD.out).symm
            case measure => rw [((HRG1.out.alloc _).alloc _).left_eq, HRG.out.left_eq]; exact HLT.out
  · have hne : ¬ ((Maps.size D1 : Int) = (Maps.size D2 : Int)) := fun e => hsz (by exact_mod_cast e)
    have HSZ := Lib.hid hsz
    clear v1 v2 o1 o2 hsz
    go_enter Try.func30, Try.ntmps30
    go_wp2
    go_ret
    refine ⟨false, rfl, ⟨fun h => absurd h (by decide), fun h => ?_⟩, World.grownBy.refl _ _⟩
    exact absurd (congrArg Maps.size (eq_of_val HO1.out HO2.out hKu HV1.out HV2.out h)) HSZ.out
set_option maxRecDepth 100000 in
set_option maxHeartbeats 8000000 in
theorem stsame_any (B n sb mb : Nat) (s : MSt) (B' n' sb' mb' : Nat) (o : MSt) (w : World) (h : StIn w B n sb mb s) (h' : StIn w B' n' sb' mb' o) :
    Calls Try.prog 15 #[.pointer (some ⟨sb, 0, none⟩), .pointer (some ⟨sb', 0, none⟩)] w fun e w' => ∃ r : Bool, e = .returned (.bool r) ∧ (r = true ↔ SameSt s o) ∧ w.grownBy w' none := by
  have HS := Lib.hid h
  have HS' := Lib.hid h'
  obtain ⟨z0, z1, z2, z3, z4, z5, z6, z7, z8, z9, z10, z11, z12, z13, z14, z15, hz⟩ := sixteen h.roots
  obtain ⟨y0, y1, y2, y3, y4, y5, y6, y7, y8, y9, y10, y11, y12, y13, y14, y15, hy⟩ := sixteen h'.roots
  have HZ := Lib.hid hz
  have HY := Lib.hid hy
  have d0 : w.rangeAt sb 0 (u64s [z0, z1, z2, z3, z4, z5, z6, z7, z8, z9, z10, z11, z12, z13, z14, z15]) := by rw [← hz]; exact h.rangeAt
  have d1 : w.cell? ⟨sb, 16, none⟩ = some (.map (some mb)) := h.st.map h.roots
  have d2 : w.rangeAt sb' 0 (u64s [y0, y1, y2, y3, y4, y5, y6, y7, y8, y9, y10, y11, y12, y13, y14, y15]) := by rw [← hy]; exact h'.rangeAt
  have d3 : w.cell? ⟨sb', 16, none⟩ = some (.map (some mb')) := h'.st.map h'.roots
  have c0 : w.cell? ⟨sb, 0, none⟩ = some (.int .u64 z0) := by simpa using d0 0 _ rfl
  have c1 : w.cell? ⟨sb, 1, none⟩ = some (.int .u64 z1) := by simpa using d0 1 _ rfl
  have c2 : w.cell? ⟨sb, 2, none⟩ = some (.int .u64 z2) := by simpa using d0 2 _ rfl
  have c3 : w.cell? ⟨sb, 3, none⟩ = some (.int .u64 z3) := by simpa using d0 3 _ rfl
  have c4 : w.cell? ⟨sb, 4, none⟩ = some (.int .u64 z4) := by simpa using d0 4 _ rfl
  have c5 : w.cell? ⟨sb, 5, none⟩ = some (.int .u64 z5) := by simpa using d0 5 _ rfl
  have c6 : w.cell? ⟨sb, 6, none⟩ = some (.int .u64 z6) := by simpa using d0 6 _ rfl
  have c7 : w.cell? ⟨sb, 7, none⟩ = some (.int .u64 z7) := by simpa using d0 7 _ rfl
  have c8 : w.cell? ⟨sb, 8, none⟩ = some (.int .u64 z8) := by simpa using d0 8 _ rfl
  have c9 : w.cell? ⟨sb, 9, none⟩ = some (.int .u64 z9) := by simpa using d0 9 _ rfl
  have c10 : w.cell? ⟨sb, 10, none⟩ = some (.int .u64 z10) := by simpa using d0 10 _ rfl
  have c11 : w.cell? ⟨sb, 11, none⟩ = some (.int .u64 z11) := by simpa using d0 11 _ rfl
  have c12 : w.cell? ⟨sb, 12, none⟩ = some (.int .u64 z12) := by simpa using d0 12 _ rfl
  have c13 : w.cell? ⟨sb, 13, none⟩ = some (.int .u64 z13) := by simpa using d0 13 _ rfl
  have c14 : w.cell? ⟨sb, 14, none⟩ = some (.int .u64 z14) := by simpa using d0 14 _ rfl
  have c15 : w.cell? ⟨sb, 15, none⟩ = some (.int .u64 z15) := by simpa using d0 15 _ rfl
  have k0 : w.cell? ⟨sb', 0, none⟩ = some (.int .u64 y0) := by simpa using d2 0 _ rfl
  have k1 : w.cell? ⟨sb', 1, none⟩ = some (.int .u64 y1) := by simpa using d2 1 _ rfl
  have k2 : w.cell? ⟨sb', 2, none⟩ = some (.int .u64 y2) := by simpa using d2 2 _ rfl
  have k3 : w.cell? ⟨sb', 3, none⟩ = some (.int .u64 y3) := by simpa using d2 3 _ rfl
  have k4 : w.cell? ⟨sb', 4, none⟩ = some (.int .u64 y4) := by simpa using d2 4 _ rfl
  have k5 : w.cell? ⟨sb', 5, none⟩ = some (.int .u64 y5) := by simpa using d2 5 _ rfl
  have k6 : w.cell? ⟨sb', 6, none⟩ = some (.int .u64 y6) := by simpa using d2 6 _ rfl
  have k7 : w.cell? ⟨sb', 7, none⟩ = some (.int .u64 y7) := by simpa using d2 7 _ rfl
  have k8 : w.cell? ⟨sb', 8, none⟩ = some (.int .u64 y8) := by simpa using d2 8 _ rfl
  have k9 : w.cell? ⟨sb', 9, none⟩ = some (.int .u64 y9) := by simpa using d2 9 _ rfl
  have k10 : w.cell? ⟨sb', 10, none⟩ = some (.int .u64 y10) := by simpa using d2 10 _ rfl
  have k11 : w.cell? ⟨sb', 11, none⟩ = some (.int .u64 y11) := by simpa using d2 11 _ rfl
  have k12 : w.cell? ⟨sb', 12, none⟩ = some (.int .u64 y12) := by simpa using d2 12 _ rfl
  have k13 : w.cell? ⟨sb', 13, none⟩ = some (.int .u64 y13) := by simpa using d2 13 _ rfl
  have k14 : w.cell? ⟨sb', 14, none⟩ = some (.int .u64 y14) := by simpa using d2 14 _ rfl
  have k15 : w.cell? ⟨sb', 15, none⟩ = some (.int .u64 y15) := by simpa using d2 15 _ rfl
  clear d0 d2
  have hu52 := Try.underlying50
  obtain ⟨i24, hi24⟩ : ∃ i, Try.prog.info? 31 = some i := Option.isSome_iff_exists.1 (by kernel_rfl)
  have hc24 : Try.prog.cellsOf 31 = 1 := by kernel_rfl
  have heq := fun W => eql_u64s (P := Try.prog) W 16 50 31 hu52 Try.underlying31 hi24 hc24 [z0, z1, z2, z3, z4, z5, z6, z7, z8, z9, z10, z11, z12, z13, z14, z15] [y0, y1, y2, y3, y4, y5, y6, y7, y8, y9, y10, y11, y12, y13, y14, y15] rfl rfl
  simp only [List.map_cons, List.map_nil] at heq
  have hm : Try.prog.eqGuardType Try.prog.depth 50 = false := by kernel_rfl
  have HD : Hid (decide ([z0, z1, z2, z3, z4, z5, z6, z7, z8, z9, z10, z11, z12, z13, z14, z15] = [y0, y1, y2, y3, y4, y5, y6, y7, y8, y9, y10, y11, y12, y13, y14, y15]) = decide (s.roots = o.roots)) := by
    show _ = _
    rw [HZ.out, HY.out]
  rw [HD.out] at heq
  clear hi24 hc24 hz hy h h'
  cases hd : decide (s.roots = o.roots)
  · rw [hd] at heq
    have HDD := Lib.hid hd
    clear hd
    go_enter Try.func15, Try.ntmps15
    go_wp2_with fail
    go_quiet (fail)
    go_wp2
    go_ret
    exact ⟨false, rfl, ⟨fun h => absurd h (by decide), fun h => absurd h.1 (of_decide_eq_false HDD.out)⟩, grown_drewN _ _ _⟩
  · rw [hd] at heq
    have HDD := Lib.hid hd
    clear hd
    go_enter Try.func15, Try.ntmps15
    go_wp2_with fail
    go_still_tail 18, (by kernel_rfl)
    change wpList _ _ _ _ _ w.drew
    have HSd : Hid (StIn w.drew B n sb mb s) := HS.out.more (grown_drew _ _)
    have HSd' : Hid (StIn w.drew B' n' sb' mb' o) := HS'.out.more (grown_drew _ _)
    have HGd : Hid (w.grownBy w.drew none) := grown_drew _ _
    generalize w.drew = w2 at HSd HSd' HGd ⊢
    go_wp2_with fail
    refine (mequal_any mb mb' n n' s.blocks o.blocks _ HSd.out.map HSd'.out.map).mono ?_
    rintro e wn ⟨r, rfl, hr, hgn⟩
    have HRr := Lib.hid hr
    have HGn := Lib.hid (HGd.out.trans hgn)
    clear hr hgn
    go_wp2
    go_ret
    exact ⟨r, rfl, ⟨fun h => ⟨of_decide_eq_true HDD.out, HRr.out.1 h⟩, fun h => HRr.out.2 h.2⟩, HGn.out⟩
end Go.Proofs.Ytjggmimaolddkaa

namespace Go.Proofs.Ytjggmimaolddkaa
open Go.RowKit Go.Maps
set_option linter.unusedVariables false

/-- All handles, each once. -/
def KeysOf (f : Int → Option (List Int)) (ss : List Int) : Prop := ss.Nodup ∧ ∀ x, x ∈ ss ↔ (U64 x ∧ (f x).isSome = true)
/-- What has come of the handles. -/
def Came (D : DataW Unit) (left : Lit → Bool) (ss : List Int) : Prop := ss.Nodup ∧ ∀ x, x ∈ ss ↔ (U64 x ∧ Maps.has D (.int .u64 x) = true ∧ left (.int .u64 x) = false)
theorem Came.start (D : DataW Unit) : Came D (Maps.has D) [] := ⟨List.nodup_nil, fun x => ⟨fun h => by simp at h, fun h => by rw [h.2.1] at h; simp at h⟩⟩
theorem Came.step {D : DataW Unit} {left : Lit → Bool} {ss : List Int} (h : Came D left ss) {k : Int} (hk : U64 k) (hh : Maps.has D (.int .u64 k) = true) (hl : left (.int .u64 k) = true) :
    Came D (fun z => left z && !z.sameKey (.int .u64 k)) (ss ++ [k]) := by
  have hself : (Lit.int .u64 k).sameKey (.int .u64 k) = true := WideAt.sameKey_self (by first | exact trivial | exact ⟨_, _, rfl⟩ | simp [WideAt.IsKeyLit])
  refine ⟨?_, fun x => ?_⟩
  · rw [List.nodup_append]
    refine ⟨h.1, by simp, fun a ha b hb e => ?_⟩
    simp at hb
    subst hb; subst e
    have := (h.2 a).1 ha
    rw [hl] at this
    simp at this
  · rw [List.mem_append, h.2 x, List.mem_singleton]
    constructor
    · rintro (⟨h1, h2, h3⟩ | rfl)
      · exact ⟨h1, h2, by show (left _ && _) = false; rw [h3]; rfl⟩
      · exact ⟨hk, hh, by show (left _ && !(Lit.int .u64 x).sameKey _) = false; rw [hself]; simp⟩
    · rintro ⟨h1, h2, h3⟩
      cases hlx : left (.int .u64 x)
      · exact .inl ⟨h1, h2, rfl⟩
      · have h3 : (left (.int .u64 x) && !(Lit.int .u64 x).sameKey (.int .u64 k)) = false := h3
        rw [hlx] at h3
        have hs : (Lit.int .u64 x).sameKey (.int .u64 k) = true := by simpa using h3
        have e := WideAt.sameKey_eq hs
        injection e with _ e
        exact .inr e
theorem Came.all {D : DataW Unit} {left : Lit → Bool} {ss : List Int} {f : Int → Option (List Int)} (h : Came D left ss) (v : Val D f) (hl : ∀ k, left k = false) : KeysOf f ss :=
  ⟨h.1, fun x => by
    rw [h.2 x]
    constructor
    · rintro ⟨h1, h2, _⟩
      obtain ⟨ws, hf, _⟩ := v.got h1 h2
      exact ⟨h1, by rw [hf]; rfl⟩
    · rintro ⟨h1, h2⟩
      obtain ⟨ws, hf⟩ := Option.isSome_iff_exists.1 h2
      exact ⟨h1, (v.had h1 hf).1, hl _⟩⟩
theorem u64_enc_inj {x y : Int} (h : Value.int .u64 x = Value.int .u64 y) : x = y := by injection h

set_option maxRecDepth 100000 in
set_option maxHeartbeats 2000000 in
theorem keys1_in (F : Fence) (n : Nat) (hF : F.fn 49) (hro : F.round = none) (hn : 1 ≤ n) (l Bm b nn : Nat) (D0 : DataW Unit) (f : Int → Option (List Int)) (hv : Val D0 f) (J Jx : List Int → World → Prop) (W : World)
    (hY : ∀ pre x W1, J pre W1 → pre.length < nn → YieldAt F (n - 1) Try.prog l #[.int .u64 x] W1 fun e W' =>
      (e = .returned (.bool true) ∧ J (pre ++ [x]) W' ∧ KeepsWalks W1 W') ∨ (e = .returned (.bool false) ∧ Jx (pre ++ [x]) W'))
    (hJ : AbidesFrom W.heap.size J) (hm : W.cell? ⟨Bm, 0, none⟩ = some (.map (some b))) (hown : W.ownsMap Try.prog 31 blkR b nn D0) (h0 : J [] W) (hsz : Maps.size D0 ≤ nn) :
    CallsIn F n Try.prog 49 #[.func (.yield l) #[] #[], .pointer (some ⟨Bm, 0, none⟩)] W fun e W' => (∃ v, e = .returned v) ∧
      ((∃ ss, KeysOf f ss ∧ J ss W') ∨ (∃ pre : List Int, True ∧ Jx pre W')) := by
  have hKu := Try.underlying31
  refine callsIn_of_wp Try.func49 rfl hF ?_ hro
  simp only [Try.ntmps49, List.size_toArray, List.length_cons, List.length_nil, Nat.reduceAdd, Nat.reduceSub, Array.replicate_succ, Array.replicate_zero, List.push_toArray, List.append_toArray, List.nil_append, List.cons_append]
  gi_wp2_with (first
    | (gi_at_range; refine wpListIn_range_own _ rfl _ 96 rfl 31 91 (int_keyed hKu) Try.underlying96 blkR b nn _ rfl hown ?_; intro w0 hrg0 hg0 hs0)
    | gi_in)
  go_frame
  gi_loopw [3] (fun _ wr => ∃ (left : Lit → Bool) (cnt : Nat) (ss : List Int), wr.ranges Try.prog 31 blkR b W.heap.size nn D0 left cnt ∧ ss.length + cnt ≤ Maps.size D0 ∧ Came D0 left ss ∧ J ss wr)
    (fun _ wr => wr.rangeLeft b W.heap.size)
  case atStart => exact ⟨_, _, [], hrg0, by simp, Came.start D0, hJ [] W w0 none h0 hg0 (fun r e => by cases e)⟩
  case round =>
    obtain ⟨left, cnt, ss, hrg, hcs, hC, hJs⟩ := hrel
    gi_wp2_with (first
      | (gi_at_next; refine wpListIn_next_ranges _ rfl _ rfl 31 (int_keyed hKu) blkR (Value.int .u64) id (fun key kl hk => by obtain ⟨x, hx, _⟩ := Maps.keyOf_int_inv hKu hk; exact ⟨x, hx⟩) (fun v _ _ => ⟨v, rfl⟩) b W.heap.size nn _ _ _ rfl hrg ?_ ?_)
      | gi_in)
    · intro hc0 hl0
      gi_wp2
      go_end0
      exact ⟨⟨_, rfl⟩, .inl ⟨ss, hC.all hv hl0, hJs⟩⟩
    · intro x c kl yd yp w2 cnt2 hkey hlk hvc hat hrg2 hlt hg2 hs2 hen
      obtain ⟨x', ex, rfl, hxw⟩ := Maps.keyOf_int_inv hKu hkey
      obtain rfl := u64_enc_inj ex
      have hJ2 : J ss w2 := hJ ss wr w2 (some W.heap.size) hJs hg2 (fun r e => by cases e; exact ⟨Nat.le_refl _, hrg.iter_walk⟩)
      obtain ⟨fn, tmps, assign, body, hy, hR⟩ := hY ss x w2 hJ2 (by omega)
      have hhas : Maps.has D0 (.int .u64 x) = true := Maps.has_true_of_atKey hat
      clear hs2
      gi_wp2
      refine hR.mono ?_
      have hC2 := hC.step (u64_of_wf hxw) hhas hlk
      rintro e W3 (⟨rfl, hJ3, hk3⟩ | ⟨rfl, hJx3⟩)
      · gi_wp2
        have hrg3 := hrg2.of_walks hk3
        go_roundw
        case rel => exact ⟨_, cnt2, ss ++ [x], hrg3, by simp; omega, hC2, hJ3⟩
        case measure => rw [hrg3.left_eq, hrg.left_eq]; exact hlt
      · gi_wp2
        refine bodyPost_ret (results_none rfl _ _ _) rfl ?_
        exact ⟨⟨_, rfl⟩, .inr ⟨_, trivial, hJx3⟩⟩
theorem size_le {w : World} {P : Program} {K : TypeId} {b n : Nat} {D : DataW Unit} (h : w.ownsMap P K blkR b n D) : Maps.size D ≤ n := by
  obtain ⟨es, clock, _, _, hs, rfl⟩ := h
  show ((es.toList.map _).foldr DataW.insert []).length ≤ n
  rw [length_sorted]; simpa using hs
theorem keys_stops (F : Fence) (n : Nat) (hF : F.fn 49) (hro : F.round = none) (hn : 1 ≤ n) (Bm b nn : Nat) (f : Int → Option (List Int)) (w : World) (hBm : Bm < w.heap.size)
    (hm : w.cell? ⟨Bm, 0, none⟩ = some (.map (some b))) (hown : OwnB w Try.prog 31 b nn f) :
    SeqStops F n Try.prog 49 #[.pointer (some ⟨Bm, 0, none⟩)] (Value.int .u64) (KeysOf f) (fun _ => True) nn w := fun l J Jx W hW hJ _ hY h0 => by
  obtain ⟨D, ho, hv⟩ := hown
  have hown' : W.ownsMap Try.prog 31 blkR b nn D := ho.kept (row := none) ⟨hW.os, hW.tape, hW.output, hW.size, fun k hk _ => hW.block k hk⟩ (by simp)
  exact keys1_in F n hF hro hn l Bm b nn D f hv J Jx W hY hJ ((hW.cell (p := ⟨Bm, 0, none⟩) hBm).trans hm) hown' h0 (size_le ho)

attribute [local go_sem] Oper.semAt_some
theorem keys_call (F : Fence) (n : Nat) (hF : F.fn 37) (hro : F.round = none) (b : Nat) (w : World) :
    CallsIn F n Try.prog 37 #[.map (some b)] w fun e w' => e = .returned (.func (.func 49) #[] #[.pointer (some ⟨w.heap.size, 0, none⟩)]) ∧ w' = w.alloc (.cells #[.map (some b)] 96) := by
  refine callsIn_of_wp Try.func37 rfl hF ?_ hro
  simp only [Try.ntmps37, List.size_toArray, List.length_cons, List.length_nil, Nat.reduceAdd, Nat.reduceSub, Array.replicate_succ, Array.replicate_zero, List.push_toArray, List.append_toArray, List.nil_append, List.cons_append]
  gi_wp2
  go_ret
  exact ⟨rfl, rfl⟩

def ColPost (f : Int → Option (List Int)) (w : World) (e : Ending) (w' : World) : Prop :=
  ∃ (v : Value) (ss : List Int), e = .returned v ∧ KeysOf f ss ∧ w'.ownsRow w.heap.size 31 1 v ss.length (u64s ss) ∧ Below w.heap.size w w'
set_option maxRecDepth 100000 in
set_option maxHeartbeats 4000000 in
theorem append_in (F : Fence) (nn : Nat) (h11 : F.fn 61) (hF : F.fn 49) (hro : F.round = none) (hn : 2 ≤ nn) (Bm b m : Nat) (f : Int → Option (List Int)) (w : World) (hBm : Bm < w.heap.size)
    (hm : w.cell? ⟨Bm, 0, none⟩ = some (.map (some b))) (hown : OwnB w Try.prog 31 b m f) (hb : m ≤ 1000000000000) :
    CallsIn F nn Try.prog 61 #[.slice none 0 0, .func (.func 49) #[] #[.pointer (some ⟨Bm, 0, none⟩)]] w (ColPost f w) := by
  have h1 : 1 ≤ nn := by omega
  obtain ⟨i0, hi, hz0, hz1, hz2⟩ := info_parts (P := Try.prog) (e := 31) (z := .int .u64 0) (size := 1) (bytes := 8) (by kernel_rfl)
  refine callsIn_of_wp_marks Try.func61 rfl h11 ?_ hro
  simp only [Try.ntmps61, List.size_toArray, List.length_cons, List.length_nil, Nat.reduceAdd, Nat.reduceSub, Array.replicate_succ, Array.replicate_zero, List.push_toArray, List.append_toArray, List.nil_append, List.cons_append]
  gi_wp2
  obtain ⟨W0, hW0⟩ : ∃ W0, w.alloc (.cells #[.slice none 0 0] 34) = W0 := ⟨_, rfl⟩
  have q0 : Boxed W0 w.heap.size 34 (.slice none 0 0) := by rw [← hW0]; exact Boxed.new w _ _
  have hB0 : Below w.heap.size w W0 := by rw [← hW0]; exact (Below.refl _ _).alloc (Nat.le_refl _) _
  have hs0 : W0.heap.size = w.heap.size + 1 := by rw [← hW0]; simp
  have ho0 : OwnB W0 Try.prog 31 b m f := hown.below hB0
  have hm0 : W0.cell? ⟨Bm, 0, none⟩ = some (.map (some b)) := (hB0.cell (p := ⟨Bm, 0, none⟩) hBm).trans hm
  rw [hW0]
  clear hW0
  refine wpIn_rangeFunc_ownF hro h1 (gf := 49) (lb := #[.pointer (some ⟨Bm, 0, none⟩)]) rfl hF (enters_of Try.func49 (by kernel_rfl) rfl)
    (keys_stops F (nn - 1) hF hro (by omega) Bm b m f W0 (by omega) hm0 ho0) walksK_t walksK_b (Below.refl _ _) (fun _ => rfl)
    (fun pre W => (∃ v, Boxed W w.heap.size 34 v ∧ W.ownsRow w.heap.size 31 1 v pre.length (u64s pre) ∧ True) ∧ Below w.heap.size w W)
    (fun c pre W => False ∧ Below w.heap.size w W)
    (OwnFrom.and (Own.from (holdsRow_own w.heap.size w.heap.size 34 31 1 (fun pre : List Int => pre.length) (fun pre : List Int => u64s pre) (fun _ _ => True)) _) (ownFrom_below (Nat.le_refl _) (by omega)))
    (fun c => fun s A B row hs hg hr => hs.1.elim)
    ⟨⟨_, q0, World.ownsRow_nil _ _ _ _, trivial⟩, hB0⟩
    (fun x => { tmps := #[.slice none 0 0, .func (.func 49) #[] #[.pointer (some ⟨Bm, 0, none⟩)], .pointer (some ⟨w.heap.size, 0, none⟩), undef, .slice none 0 0, .int .u64 x, .func (.func 49) #[] #[.pointer (some ⟨Bm, 0, none⟩)], .int .u64 x, undef, undef, undef, undef, undef], defers := [] }) ?assign ?body ?done ?stop
  case assign =>
    intro lp x W K hK
    gi_wp2
    exact hK
  case body =>
    rintro lp pre x W ⟨⟨v, hv, hrow, _⟩, hB⟩ hlen
    have hc := hv.cell
    have hsz := hB.size
    have hb3 := hv.lt
    have HV := Lib.hid hv
    have HRow := Lib.hid hrow
    have HB := Lib.hid hB
    clear hv hrow hB
    gi_wp2_with (gi_at_builtin; refine wpListIn_append_own _ rfl (.tmp 8) (.tmp 10) 34 rfl w.heap.size 31 i0 (.int .u64 0) 1 8 Try.underlying34 hi hz0 hz1 hz2 rfl (by decide) _ pre.length (u64s pre) rfl ?c1 ⟨W.heap.size, 0, none⟩ 1 1 [.int .u64 x] ?c2 ?c3 ?c4 ?c5 ?c6 ?c7 ?c8 ?_)
    case c1 => exact HRow.out.alloc _
    case c2 => rfl
    case c3 => rfl
    case c4 => intro j u hu; rcases j with _ | j <;> simp at hu; subst hu; simp [Addr.add]
    case c5 => intro u hu; simp at hu; subst hu; rfl
    case c6 => simp only [maxLen]; omega
    case c7 => omega
    case c8 => simp; omega
    intro v' w1 hown' hgrow _
    obtain ⟨g', cap', rfl⟩ := ownsRow_succ hown'
    obtain ⟨hv1, hv2, hr2, hk2, hb2⟩ := HV.out.appended (by decide) HRow.out HB.out.size (by omega) hown' hgrow
    have hc1 := hv1.cell
    have hf1 := hv1.frozen
    have hz1 := hv1.lt
    have HV2 := Lib.hid hv2
    have HR2 := Lib.hid hr2
    have HK2 := Lib.hid hk2
    have HB2 := Lib.hid hb2
    clear hv1 hv2 hr2 hk2 hb2 hown' hgrow
    gi_wp2
    refine ⟨HK2.out, HK2.out.walks, ⟨⟨_, HV2.out, ?_, trivial⟩, HB.out.trans HB2.out⟩⟩
    rw [List.length_append, u64s, List.map_append]
    exact HR2.out
  case done =>
    rintro D ys W hD hS ⟨⟨v, hv, hrow, _⟩, hB⟩ hK
    have hc := hv.cell
    obtain ⟨A', c', rfl, _⟩ := Rd.of_own hrow
    have HRow := Lib.hid hrow
    have HKK := Lib.hid hK
    have HB := Lib.hid hB
    have HS := Lib.hid hS
    clear hK hB hS hrow hv
    gi_wp2
    refine ⟨by simp, .inl ⟨_, _, rfl, run_takeDeferred HKK.out, ?_⟩⟩
    refine ⟨_, results_tmp rfl _ _ _, .slice A' ys.length c', ys, rfl, HS.out, ownsRow_putObj HRow.out _ HKK.out rfl, HB.out.trans (belowK_b (w := w) (Nat.le_refl _) W D _ _ (by omega) HKK.out rfl rfl)⟩
  case stop =>
    rintro D c pre W hD _ ⟨hF0, _⟩ _
    exact hF0.elim

set_option maxRecDepth 100000 in
theorem collect_in (F : Fence) (nn : Nat) (h8 : F.fn 47) (h11 : F.fn 61) (hF : F.fn 49) (hro : F.round = none) (hn : 3 ≤ nn) (Bm b m : Nat) (f : Int → Option (List Int)) (w : World) (hBm : Bm < w.heap.size)
    (hm : w.cell? ⟨Bm, 0, none⟩ = some (.map (some b))) (hown : OwnB w Try.prog 31 b m f) (hb : m ≤ 1000000000000) :
    CallsIn F nn Try.prog 47 #[.func (.func 49) #[] #[.pointer (some ⟨Bm, 0, none⟩)]] w (ColPost f w) := by
  have h1 : 1 ≤ nn := by omega
  refine callsIn_of_wp Try.func47 rfl h8 ?_ hro
  simp only [Try.ntmps47, List.size_toArray, List.length_cons, List.length_nil, Nat.reduceAdd, Nat.reduceSub, Array.replicate_succ, Array.replicate_zero, List.push_toArray, List.append_toArray, List.nil_append, List.cons_append]
  gi_wp2_with (gi_at_call 61; refine (append_in F (nn - 1) h11 hF hro (by omega) Bm b m f _ hBm hm hown hb).mono ?_; rintro e w' ⟨v, ss, rfl, hS, hrow, hbl⟩)
  go_ret
  exact ⟨v, ss, rfl, hS, hrow, hbl⟩
theorem keys_any (b : Nat) (w : World) : Calls Try.prog 37 #[.map (some b)] w fun e w' => e = .returned (.func (.func 49) #[] #[.pointer (some ⟨w.heap.size, 0, none⟩)]) ∧ w' = w.alloc (.cells #[.map (some b)] 96) :=
  (callsIn_wide (n := 9)).1 (keys_call Fence.wide 9 trivial rfl b w)
theorem collect_any (Bm b m : Nat) (f : Int → Option (List Int)) (w : World) (hBm : Bm < w.heap.size)
    (hm : w.cell? ⟨Bm, 0, none⟩ = some (.map (some b))) (hown : OwnB w Try.prog 31 b m f) (hb : m ≤ 1000000000000) :
    Calls Try.prog 47 #[.func (.func 49) #[] #[.pointer (some ⟨Bm, 0, none⟩)]] w (ColPost f w) :=
  (callsIn_wide (n := 9)).1 (collect_in Fence.wide 9 trivial trivial trivial rfl (by omega) Bm b m f w hBm hm hown hb)
end Go.Proofs.Ytjggmimaolddkaa

namespace Go.Proofs.Ytjggmimaolddkaa
open Go.RowKit Go.Maps
set_option linter.unusedVariables false

theorem insert_one (A : Option Addr) (n c : Nat) (w : World) (hn : n ≤ 1) :
    Calls Try.prog 77 #[.slice A n c, .int .i64 0, .int .i64 n] w fun e w' => (∃ v, e = .returned v) ∧ w' = w := by
  have hlt : ¬ ((1 : Int) < n) := by omega
  go_enter Try.func77, Try.ntmps77
  go_wp2
  refine wp_loop_rounds 1 ?_
  rw [rounds_succ]
  go_wp2
  go_end0
  exact ⟨⟨_, rfl⟩, rfl⟩
theorem pdq_one (A : Option Addr) (n c : Nat) (lim : Int) (w : World) (hn : n ≤ 1) :
    Calls Try.prog 62 #[.slice A n c, .int .i64 0, .int .i64 n, .int .i64 lim] w fun e w' => (∃ v, e = .returned v) ∧ w' = w := by
  have h12 : (n : Int) ≤ 12 := by omega
  have hs : IntKind.i64.wrap (n : Int) = n := IntWalk.i64_in _ (by omega)
  go_enter Try.func62, Try.ntmps62
  go_wp2
  refine wp_loop_rounds 1 ?_
  rw [rounds_succ]
  go_wp2_with fail
  refine (insert_one A n c _ hn).mono ?_
  rintro e w' ⟨⟨v, rfl⟩, rfl⟩
  go_wp2
  refine bodyPost_ret (results_none rfl _ _ _) rfl ⟨⟨_, rfl⟩, rfl⟩
theorem sort_one (A : Option Addr) (n c : Nat) (w : World) (hn : n ≤ 1) :
    Calls Try.prog 48 #[.slice A n c] w fun e w' => (∃ v, e = .returned v) ∧ w' = w := by
  have h64 : IntKind.u64.wrap (n : Int) = n := by rw [IntKind.wrap_u64]; omega
  go_enter Try.func48, Try.ntmps48
  go_wp2_with fail
  refine (Try.bits_Len (n : Int) _ (by omega) (by omega)).mono ?_
  rintro e w' ⟨rfl, rfl⟩
  go_wp2_with fail
  refine (pdq_one A n c _ _ hn).mono ?_
  rintro e w' ⟨⟨v, rfl⟩, rfl⟩
  go_wp2
  go_end0
  exact ⟨⟨_, rfl⟩, rfl⟩
/-- All handles, rising. -/
def HandlesPost (f : Int → Option (List Int)) (w : World) (e : Ending) (w' : World) : Prop :=
  ∃ (v : Value) (ss : List Int), e = .returned v ∧ KeysOf f ss ∧ ss.Pairwise (· < ·) ∧ w'.ownsRow w.heap.size 31 1 v ss.length (u64s ss) ∧ Below w.heap.size w w'
theorem short_rising {l : List Int} (h : l.length ≤ 1) : l.Pairwise (· < ·) := by
  match l, h with
  | [], _ => exact List.Pairwise.nil
  | [x], _ => exact List.pairwise_singleton _ _
set_option maxRecDepth 100000 in
theorem sorted_one (Bm b m : Nat) (f : Int → Option (List Int)) (w : World) (hBm : Bm < w.heap.size)
    (hm : w.cell? ⟨Bm, 0, none⟩ = some (.map (some b))) (hown : OwnB w Try.prog 31 b m f) (hb : m ≤ 1000000000000) (hone : ∀ ss, KeysOf f ss → ss.length ≤ 1) :
    Calls Try.prog 36 #[.func (.func 49) #[] #[.pointer (some ⟨Bm, 0, none⟩)]] w (HandlesPost f w) := by
  go_enter Try.func36, Try.ntmps36
  go_wp2_with fail
  refine (collect_any Bm b m f _ hBm hm hown hb).mono ?_
  rintro e w2 ⟨v, ss, rfl, hS, hrow, hb2⟩
  have HS := Lib.hid hS
  have h1 := hone ss hS
  obtain ⟨A, c, rfl, _⟩ := Rd.of_own hrow
  have HRow := Lib.hid hrow
  have HB2 := Lib.hid hb2
  clear hS hrow hb2
  go_wp2_with fail
  refine (sort_one A ss.length c _ h1).mono ?_
  rintro e w3 ⟨⟨v, rfl⟩, rfl⟩
  go_wp2
  go_ret
  exact ⟨_, ss, rfl, HS.out, short_rising h1, HRow.out, HB2.out⟩
set_option maxRecDepth 100000 in
theorem handles_one (B n sb mb : Nat) (s : MSt) (w : World) (h : StIn w B n sb mb s) (hn : n ≤ 1000000000000) (hone : ∀ ss, KeysOf s.blocks ss → ss.length ≤ 1) :
    Calls Try.prog 21 #[.pointer (some ⟨sb, 0, none⟩)] w (HandlesPost s.blocks w) := by
  have kM : w.cell? ⟨sb, 16, none⟩ = some (.map (some mb)) := h.st.map h.roots
  have HM := Lib.hid h.map
  clear h
  go_enter Try.func21, Try.ntmps21
  go_wp2_with fail
  refine (keys_any mb _).mono ?_
  rintro e w1 ⟨rfl, hw1⟩
  have hb1 : Below w.heap.size w w1 := by rw [hw1]; exact (Below.refl _ _).alloc (Nat.le_refl _) _
  have hc1 : w1.cell? ⟨w.heap.size, 0, none⟩ = some (.map (some mb)) := by rw [hw1]; exact World.cell?_alloc_at _ _ _ _ rfl
  have hz1 : w.heap.size < w1.heap.size := by rw [hw1]; simp
  have HM1 := Lib.hid (HM.out.below hb1)
  have HB1 := Lib.hid hb1
  have HC1 := Lib.hid hc1
  clear hw1 hb1 hc1
  go_wp2_with fail
  refine (sorted_one w.heap.size mb n s.blocks _ hz1 HC1.out HM1.out hn hone).mono ?_
  rintro e w2 ⟨v, ss, rfl, hS, hsr, hrow, hb2⟩
  have HS := Lib.hid hS
  have HSr := Lib.hid hsr
  have HRow := Lib.hid hrow
  have HB2 := Lib.hid (HB1.out.trans (hb2.mono HB1.out.size))
  clear hS hrow hb2 hsr
  go_wp2
  go_ret
  exact ⟨_, ss, rfl, HS.out, HSr.out, own_base HRow.out (Nat.le_of_lt hz1), HB2.out⟩
end Go.Proofs.Ytjggmimaolddkaa

namespace Go.Proofs.Ytjggmimaolddkaa
open Go.RowKit Go.Sort
set_option linter.unusedVariables false

set_option maxHeartbeats 1000000 in
theorem srt_cmp_isNaN_u64 (x : Int) (w : World) : Calls Try.prog 98 #[.int .u64 x] w fun e w' => e = .returned (.bool false) ∧ w' = w := by
  go_enter Try.func98, Try.ntmps98
  go_wp2
  go_ret
  exact ⟨by simp, rfl⟩
set_option maxHeartbeats 1000000 in
theorem srt_cmp_Less_u64 (x y : Int) (w : World) : Calls Try.prog 83 #[.int .u64 x, .int .u64 y] w fun e w' => e = .returned (.bool (Sort.ltInt x y)) ∧ w' = w := by
  go_enter Try.func83, Try.ntmps83
  go_wp2_with (go_at_call 98; refine (srt_cmp_isNaN_u64 _ _).mono ?_; rintro e w' ⟨rfl, rfl⟩)
  go_ret
  exact ⟨rfl, rfl⟩
end Go.Proofs.Ytjggmimaolddkaa

namespace Go.Proofs.Ytjggmimaolddkaa
open Go.RowKit Go.Sort
set_option linter.unusedVariables false

theorem srt_insertionSort_u64 (blk off cap a b : Nat) (d : Array Int) (w : World) (hH : Holds (Value.int .u64) w blk off d) (hab : a ≤ b) (hb : b ≤ d.size) (hsz : d.size < 4611686018427387904) :
    Calls Try.prog 77 #[.slice (some ⟨blk, off, none⟩) d.size cap, .int .i64 a, .int .i64 b] w fun e w' =>
      e = .returned (.tuple #[]) ∧ ∃ n, w' = putRow (Value.int .u64) (Sort.ahead w n) blk off (Sort.insertionSort ltInt d a b) := by
  go_enter Try.func77, Try.ntmps77
  go_wp2
  go_loopw [6] (fun vi wr => ∃ (i n : Nat) (dk : Array Int), vi = .int .i64 i ∧ a < i ∧ i ≤ b + 1 ∧ dk.size = d.size ∧ wr = putRow (Value.int .u64) (Sort.ahead w n) blk off dk ∧
      insOuter ltInt a b i dk = insOuter ltInt a b (a + 1) d) (fun vi _ => b + 1 - (intOf vi).toNat)
  case atStart => exact ⟨a + 1, 0, d, by go_num, by omega, by omega, rfl, (putRow_self _ _ _ _ _ hH).symm, rfl⟩
  case round =>
    obtain ⟨i, n, dk, rfl, hai, hib, hsk, hwr, hO⟩ := hrel
    have HO : Hid (insOuter ltInt a b i dk = insOuter ltInt a b (a + 1) d) := hO
    clear hO
    go_wp2
    ·
      go_loopw [7] (fun vj wr2 => ∃ (j m : Nat) (dj : Array Int), vj = .int .i64 j ∧ a ≤ j ∧ j ≤ i ∧ dj.size = d.size ∧ wr2 = putRow (Value.int .u64) (Sort.ahead w m) blk off dj ∧
          insInner ltInt a j dj = insInner ltInt a i dk) (fun vj _ => (intOf vj).toNat)
      case atStart => exact ⟨i, n, dk, rfl, by omega, Nat.le_refl _, hsk, rfl, rfl⟩
      case round =>
        obtain ⟨j, m, dj, rfl, haj, hji, hsj, hw2, hI⟩ := hrel
        have hlt : i < b := by assumption
        obtain ⟨G, hG⟩ : ∃ G : Nat → Int, ∀ t, G t = dj[t]! := ⟨fun t => dj[t]!, fun _ => rfl⟩
        have hcw : ∀ t, t < d.size → wr.cell? ⟨blk, off + t, none⟩ = some (.int .u64 (G t)) := fun t ht => by
          rw [hw2, hG]; exact cell?_putRow _ _ _ _ d dj (holds_ahead _ _ _ _ _ _ hH) hsj t (by omega)
        have hfw : ∀ t, t < d.size → wr.frozen? ⟨blk, off + t, none⟩ = false := fun t ht => by
          rw [hw2, frozen?_putRow]; exact ((holds_ahead _ _ m _ _ _ hH) t ht).2
        have HW : Hid (wr = putRow (Value.int .u64) (Sort.ahead w m) blk off dj) := hw2
        have HG : Hid (∀ t, G t = dj[t]!) := hG
        have HI : Hid (insInner ltInt a j dj = insInner ltInt a i dk) := hI
        clear hw2 hG hI hH
        have out : (j ≤ a ∨ ltInt dj[j]! dj[j - 1]! = false) → ∀ q, ∃ i' n' dk', Value.int .i64 ((i : Int) + 1) = .int .i64 (i' : Nat) ∧ a < i' ∧ i' ≤ b + 1 ∧ dk'.size = d.size ∧
            wr.drewN q = putRow (Value.int .u64) (Sort.ahead w n') blk off dk' ∧ insOuter ltInt a b i' dk' = insOuter ltInt a b (a + 1) d := fun hs q =>
          ⟨i + 1, m + q, dj, by go_num, by omega, by omega, hsj, by rw [HW.out]; exact putRow_drewN _ _ _ _ _ _ _,
            by rw [← HO.out, insOuter_go _ _ _ _ _ hlt, ← HI.out, insInner_stop _ _ _ _ hs]⟩
        have OUT : Hid _ := out
        clear out
        go_wp2
        by_cases hja : a < j
        · go_quiet (first | (go_at_call 83; refine Calls.quiet_of_same (srt_cmp_Less_u64 _ _ _)))
          go_wp2
          ·
            have hl : ltInt (G j) (G (j - 1)) = true := by assumption
            go_region
            all_goals go_wp2
            go_roundw
            case rel =>
              refine ⟨j - 1, m + (nq + 1), swp dj j (j - 1), by congr 1; omega, by omega, by omega, by rw [size_swp]; exact hsj, ?_, ?_⟩
              · rw [HW.out, HG.out, HG.out]
                exact swap_worldA _ w m (nq + 1) blk off dj j (j - 1) (by omega) (by omega)
              · rw [← HI.out, insInner_go ltInt a j dj hja (by rw [← HG.out, ← HG.out]; exact hl)]
            case measure => simp [intOf]; omega
          ·
            have hl : ltInt (G j) (G (j - 1)) = false := by assumption
            go_roundw
            case rel => exact OUT.out (Or.inr (by rw [← HG.out, ← HG.out]; exact hl)) nq
            case measure => simp [intOf]; omega
        · go_quiet (first | (go_at_call 83; refine Calls.quiet_of_same (srt_cmp_Less_u64 _ _ _)))
          go_wp2
          go_roundw
          case rel => exact OUT.out (Or.inl (by omega)) nq
          case measure => simp [intOf]; omega
    ·
      have hge : ¬ i < b := by assumption
      go_end0
      exact ⟨rfl, n, by unfold Sort.insertionSort; rw [← HO.out, insOuter_stop _ _ _ _ _ hge]⟩
set_option maxHeartbeats 1600000 in
set_option maxRecDepth 100000 in
theorem srt_partialInsertionSort_u64 (blk off cap a b : Nat) (d : Array Int) (w : World) (hH : Holds (Value.int .u64) w blk off d) (hab : a < b) (hb : b ≤ d.size) (hsz : d.size < 4611686018427387904) :
    Calls Try.prog 82 #[.slice (some ⟨blk, off, none⟩) d.size cap, .int .i64 a, .int .i64 b] w fun e w' =>
      e = .returned (.bool (Sort.partialInsertionSort ltInt d a b).2) ∧ ∃ n, w' = putRow (Value.int .u64) (Sort.ahead w n) blk off (Sort.partialInsertionSort ltInt d a b).1 := by
  have HH : Hid (Holds (Value.int .u64) w blk off d) := hH
  have HST : Hid (w = putRow (Value.int .u64) (Sort.ahead w 0) blk off d) := (putRow_self _ _ _ _ _ hH).symm
  clear hH
  go_enter Try.func82, Try.ntmps82
  go_wp2
  go_loopw [7, 8] (fun vi vs wr => ∃ (i s n : Nat) (dk : Array Int), vi = .int .i64 i ∧ vs = .int .i64 s ∧ s ≤ 5 ∧ a < i ∧ i ≤ b ∧ dk.size = d.size ∧ wr = putRow (Value.int .u64) (Sort.ahead w n) blk off dk ∧
      partialIns ltInt a b (5 - s) i dk = partialIns ltInt a b 5 (a + 1) d) (fun _ vs _ => 5 - (intOf vs).toNat)
  case atStart => exact ⟨a + 1, 0, 0, d, by go_num, rfl, by omega, by omega, by omega, rfl, HST.out, rfl⟩
  case round =>
    obtain ⟨i, s, n, dk, rfl, rfl, hs5, hai, hib, hsk, hwr, hO⟩ := hrel
    have HO : Hid (partialIns ltInt a b (5 - s) i dk = partialIns ltInt a b 5 (a + 1) d) := hO
    clear hO
    go_wp2
    ·
      have hs : s < 5 := by omega
      go_loopw [7] (fun vi wr2 => ∃ (k m : Nat), vi = .int .i64 k ∧ i ≤ k ∧ k ≤ b ∧ wr2 = putRow (Value.int .u64) (Sort.ahead w m) blk off dk ∧ scanSorted ltInt dk b k = scanSorted ltInt dk b i) (fun vi _ => b - (intOf vi).toNat)
      case atStart => exact ⟨i, n, rfl, Nat.le_refl _, hib, rfl, rfl⟩
      case round =>
        obtain ⟨k, m, rfl, hik, hkb, hw2, hS⟩ := hrel
        obtain ⟨G, hG⟩ : ∃ G : Nat → Int, ∀ t, G t = dk[t]! := ⟨fun t => dk[t]!, fun _ => rfl⟩
        have hcw : ∀ t, t < d.size → wr.cell? ⟨blk, off + t, none⟩ = some (.int .u64 (G t)) := fun t ht => by
          rw [hw2, hG]; exact cell?_putRow _ _ _ _ d dk (holds_ahead _ _ _ _ _ _ HH.out) hsk t (by omega)
        have hfw : ∀ t, t < d.size → wr.frozen? ⟨blk, off + t, none⟩ = false := fun t ht => by
          rw [hw2, frozen?_putRow]; exact ((holds_ahead _ _ m _ _ _ HH.out) t ht).2
        have HW : Hid (wr = putRow (Value.int .u64) (Sort.ahead w m) blk off dk) := hw2
        have HG : Hid (∀ t, G t = dk[t]!) := hG
        have HS : Hid (scanSorted ltInt dk b k = scanSorted ltInt dk b i) := hS
        clear hw2 hG hS
        go_wp2
        by_cases hkb' : k < b
        · go_quiet (first | (go_at_call 83; refine Calls.quiet_of_same (srt_cmp_Less_u64 _ _ _)))
          go_wp2
          all_goals first
            | (at_end
               have hl : ltInt (G k) (G (k - 1)) = false := by
                 have h : (!ltInt (G k) (G (k - 1))) = true := by assumption
                 simpa using h
               go_roundw
               case rel => exact ⟨k + 1, m + nq, by go_num, by omega, by omega, by rw [HW.out]; exact putRow_drewN _ _ _ _ _ _ _, by rw [← HS.out, scanSorted_go ltInt dk b k hkb' (by rw [← HG.out, ← HG.out]; exact hl)]⟩
               case measure => simp [intOf]; omega)
            | (have hl : ltInt (G k) (G (k - 1)) = true := by
                 have h : (!ltInt (G k) (G (k - 1))) = false := by assumption
                 simpa using h
               have HK : Hid (scanSorted ltInt dk b i = k) := by
                 show scanSorted ltInt dk b i = k
                 rw [← HS.out, scanSorted_stop ltInt dk b k (Or.inr (by rw [← HG.out, ← HG.out]; exact hl))]
               first
                 | (at_ret
                    have hv : Sort.partialInsertionSort ltInt d a b = (dk, false) := by
                      unfold Sort.partialInsertionSort
                      rw [← HO.out, pi_short ltInt a b s i dk hs (by rw [HK.out]; omega) (by omega)]
                    rw [hv]
                    go_ret
                    exact ⟨rfl, m + nq, by rw [HW.out]; exact putRow_drewN _ _ _ _ _ _ _⟩)
                 | (at_region 11
                    have h50 : ¬ b - a < 50 := by omega
                    go_region
                    have hsw : ((wr.drewN (nq + 1)).setCell ⟨blk, off + k, none⟩ (.int .u64 (G (k - 1)))).setCell ⟨blk, off + (k - 1), none⟩ (.int .u64 (G k)) = putRow (Value.int .u64) (Sort.ahead w (m + (nq + 1))) blk off (swp dk k (k - 1)) := by
                      rw [HW.out, HG.out, HG.out]
                      exact swap_worldA _ w m (nq + 1) blk off dk k (k - 1) (by omega) (by omega)
                    have hs1 : (swp dk k (k - 1)).size = d.size := by rw [size_swp]; exact hsk
                    go_wp2
                    all_goals first
                      | (at_loop
                         have hka : k - a ≥ 2 := by omega
                         go_loopw [9] (fun vj wr2 => ∃ (j m2 : Nat) (dj : Array Int), vj = .int .i64 j ∧ j ≤ k - 1 ∧ dj.size = d.size ∧ wr2 = putRow (Value.int .u64) (Sort.ahead w m2) blk off dj ∧
                             shiftDown ltInt j dj = shiftDown ltInt (k - 1) (swp dk k (k - 1))) (fun vj _ => (intOf vj).toNat)
                         case atStart => exact ⟨k - 1, _, (swp dk k (k - 1)), by congr 1; omega, Nat.le_refl _, hs1, rfl, rfl⟩
                         case round =>
                           obtain ⟨j, m2, dj, rfl, hjk, hsj, hw2, hDn⟩ := hrel
                           obtain ⟨G, hG⟩ : ∃ G : Nat → Int, ∀ t, G t = dj[t]! := ⟨fun t => dj[t]!, fun _ => rfl⟩
                           have hcw : ∀ t, t < d.size → wr.cell? ⟨blk, off + t, none⟩ = some (.int .u64 (G t)) := fun t ht => by
                             rw [hw2, hG]; exact cell?_putRow _ _ _ _ d dj (holds_ahead _ _ _ _ _ _ HH.out) hsj t (by omega)
                           have hfw : ∀ t, t < d.size → wr.frozen? ⟨blk, off + t, none⟩ = false := fun t ht => by
                             rw [hw2, frozen?_putRow]; exact ((holds_ahead _ _ m2 _ _ _ HH.out) t ht).2
                           have HW : Hid (wr = putRow (Value.int .u64) (Sort.ahead w m2) blk off dj) := hw2
                           have HG : Hid (∀ t, G t = dj[t]!) := hG
                           have HDn : Hid (shiftDown ltInt j dj = shiftDown ltInt (k - 1) (swp dk k (k - 1))) := hDn
                           clear hw2 hG hDn hsw
                           go_wp2
                           all_goals first
                             | (at_region 16
                                go_quiet (first | (go_at_call 83; refine Calls.quiet_of_same (srt_cmp_Less_u64 _ _ _)))
                                go_wp2
                                all_goals first
                                  | (at_region 17
                                     have hl : ltInt (G j) (G (j - 1)) = true := by
                                       have h : (!ltInt (G j) (G (j - 1))) = false := by assumption
                                       simpa using h
                                     go_region
                                     all_goals go_wp2
                                     go_roundw
                                     case rel =>
                                       refine ⟨j - 1, m2 + (nq + 1), swp dj j (j - 1), by congr 1; omega, by omega, by rw [size_swp]; exact hsj, ?_, ?_⟩
                                       · rw [HW.out, HG.out, HG.out]
                                         exact swap_worldA _ w m2 (nq + 1) blk off dj j (j - 1) (by omega) (by omega)
                                       · rw [← HDn.out, shiftDown_go ltInt j dj (by omega) (by rw [← HG.out, ← HG.out]; exact hl)]
                                     case measure => simp [intOf]; omega)
                                  | (-- break
                                     have hl : ltInt (G j) (G (j - 1)) = false := by
                                       have h : (!ltInt (G j) (G (j - 1))) = true := by assumption
                                       simpa using h
                                     have HD : Hid (fixDown ltInt a k (swp dk k (k - 1)) = dj) := by
                                       show fixDown ltInt a k (swp dk k (k - 1)) = dj
                                       unfold fixDown; rw [if_pos hka, ← HDn.out, shiftDown_stop ltInt j dj (Or.inr (by rw [← HG.out, ← HG.out]; exact hl))]
                                     first
                                       | (at_end
                                          go_roundw
                                          case rel =>
                                            refine ⟨k, s + 1, _, dj, rfl, by go_num, by omega, by omega, by omega, hsj, (by first | rfl | exact HW.out | (rw [HW.out]; exact putRow_drewN _ _ _ _ _ _ _)), ?_⟩
                                            rw [← HO.out, pi_go ltInt a b s i k dk hs HK.out (by omega) (by omega), HD.out, show fixUp ltInt b k dj = dj from by unfold fixUp; rw [if_neg (by omega)]]
                                          case measure => simp [intOf]; omega)
                                       | (at_loop
                                          go_loopw [10] (fun vj wr2 => ∃ (j m3 : Nat) (du : Array Int), vj = .int .i64 j ∧ k + 1 ≤ j ∧ j ≤ b ∧ du.size = d.size ∧ wr2 = putRow (Value.int .u64) (Sort.ahead w m3) blk off du ∧
                                              shiftUp ltInt b j du = shiftUp ltInt b (k + 1) dj) (fun vj _ => b - (intOf vj).toNat)
                                          case atStart => exact ⟨k + 1, _, dj, by go_num, Nat.le_refl _, by omega, hsj, (by first | rfl | exact HW.out | (rw [HW.out]; exact putRow_drewN _ _ _ _ _ _ _)), rfl⟩
                                          case round =>
                                            obtain ⟨j, m3, du, rfl, hkj, hjb, hsu, hw3, hU⟩ := hrel
                                            obtain ⟨G, hG⟩ : ∃ G : Nat → Int, ∀ t, G t = du[t]! := ⟨fun t => du[t]!, fun _ => rfl⟩
                                            have hcw : ∀ t, t < d.size → wr.cell? ⟨blk, off + t, none⟩ = some (.int .u64 (G t)) := fun t ht => by
                                              rw [hw3, hG]; exact cell?_putRow _ _ _ _ d du (holds_ahead _ _ _ _ _ _ HH.out) hsu t (by omega)
                                            have hfw : ∀ t, t < d.size → wr.frozen? ⟨blk, off + t, none⟩ = false := fun t ht => by
                                              rw [hw3, frozen?_putRow]; exact ((holds_ahead _ _ m3 _ _ _ HH.out) t ht).2
                                            have HW : Hid (wr = putRow (Value.int .u64) (Sort.ahead w m3) blk off du) := hw3
                                            have HG : Hid (∀ t, G t = du[t]!) := hG
                                            have HU : Hid (shiftUp ltInt b j du = shiftUp ltInt b (k + 1) dj) := hU
                                            clear hw3 hG hU
                                            go_wp2
                                            all_goals first
                                              | (at_region 22
                                                 go_quiet (first | (go_at_call 83; refine Calls.quiet_of_same (srt_cmp_Less_u64 _ _ _)))
                                                 go_wp2
                                                 all_goals first
                                                   | (at_region 23
                                                      have hl : ltInt (G j) (G (j - 1)) = true := by
                                                        have h : (!ltInt (G j) (G (j - 1))) = false := by assumption
                                                        simpa using h
                                                      go_region
                                                      all_goals go_wp2
                                                      go_roundw
                                                      case rel =>
                                                        refine ⟨j + 1, m3 + (nq + 1), swp du j (j - 1), by go_num, by omega, by omega, by rw [size_swp]; exact hsu, ?_, ?_⟩
                                                        · rw [HW.out, HG.out, HG.out]
                                                          exact swap_worldA _ w m3 (nq + 1) blk off du j (j - 1) (by omega) (by omega)
                                                        · rw [← HU.out, shiftUp_go ltInt b j du (by omega) (by rw [← HG.out, ← HG.out]; exact hl)]
                                                      case measure => simp [intOf]; omega)
                                                   | (at_end
                                                      have hl : ltInt (G j) (G (j - 1)) = false := by
                                                        have h : (!ltInt (G j) (G (j - 1))) = true := by assumption
                                                        simpa using h
                                                      go_roundw
                                                      case rel =>
                                                        refine ⟨k, s + 1, _, du, rfl, by go_num, by omega, by omega, by omega, hsu, (by first | rfl | exact HW.out | (rw [HW.out]; exact putRow_drewN _ _ _ _ _ _ _)), ?_⟩
                                                        rw [← HO.out, pi_go ltInt a b s i k dk hs HK.out (by omega) (by omega), HD.out, show fixUp ltInt b k dj = du from by unfold fixUp; rw [if_pos (by omega), ← HU.out, shiftUp_stop ltInt b j du (Or.inr (by rw [← HG.out, ← HG.out]; exact hl))]]
                                                      case measure => simp [intOf]; omega))
                                              | (at_end
                                                 go_roundw
                                                 case rel =>
                                                   refine ⟨k, s + 1, _, du, rfl, by go_num, by omega, by omega, by omega, hsu, (by first | rfl | exact HW.out | (rw [HW.out]; exact putRow_drewN _ _ _ _ _ _ _)), ?_⟩
                                                   rw [← HO.out, pi_go ltInt a b s i k dk hs HK.out (by omega) (by omega), HD.out, show fixUp ltInt b k dj = du from by unfold fixUp; rw [if_pos (by omega), ← HU.out, shiftUp_stop ltInt b j du (Or.inl (by omega))]]
                                                 case measure => simp [intOf]; omega))))
                             | (-- j < 1
                                have HD : Hid (fixDown ltInt a k (swp dk k (k - 1)) = dj) := by
                                  show fixDown ltInt a k (swp dk k (k - 1)) = dj
                                  unfold fixDown; rw [if_pos hka, ← HDn.out, shiftDown_stop ltInt j dj (Or.inl (by omega))]
                                first
                                  | (at_end
                                     go_roundw
                                     case rel =>
                                       refine ⟨k, s + 1, _, dj, rfl, by go_num, by omega, by omega, by omega, hsj, (by first | rfl | exact HW.out | (rw [HW.out]; exact putRow_drewN _ _ _ _ _ _ _)), ?_⟩
                                       rw [← HO.out, pi_go ltInt a b s i k dk hs HK.out (by omega) (by omega), HD.out, show fixUp ltInt b k dj = dj from by unfold fixUp; rw [if_neg (by omega)]]
                                     case measure => simp [intOf]; omega)
                                  | (at_loop
                                     go_loopw [10] (fun vj wr2 => ∃ (j m3 : Nat) (du : Array Int), vj = .int .i64 j ∧ k + 1 ≤ j ∧ j ≤ b ∧ du.size = d.size ∧ wr2 = putRow (Value.int .u64) (Sort.ahead w m3) blk off du ∧
                                         shiftUp ltInt b j du = shiftUp ltInt b (k + 1) dj) (fun vj _ => b - (intOf vj).toNat)
                                     case atStart => exact ⟨k + 1, _, dj, by go_num, Nat.le_refl _, by omega, hsj, (by first | rfl | exact HW.out | (rw [HW.out]; exact putRow_drewN _ _ _ _ _ _ _)), rfl⟩
                                     case round =>
                                       obtain ⟨j, m3, du, rfl, hkj, hjb, hsu, hw3, hU⟩ := hrel
                                       obtain ⟨G, hG⟩ : ∃ G : Nat → Int, ∀ t, G t = du[t]! := ⟨fun t => du[t]!, fun _ => rfl⟩
                                       have hcw : ∀ t, t < d.size → wr.cell? ⟨blk, off + t, none⟩ = some (.int .u64 (G t)) := fun t ht => by
                                         rw [hw3, hG]; exact cell?_putRow _ _ _ _ d du (holds_ahead _ _ _ _ _ _ HH.out) hsu t (by omega)
                                       have hfw : ∀ t, t < d.size → wr.frozen? ⟨blk, off + t, none⟩ = false := fun t ht => by
                                         rw [hw3, frozen?_putRow]; exact ((holds_ahead _ _ m3 _ _ _ HH.out) t ht).2
                                       have HW : Hid (wr = putRow (Value.int .u64) (Sort.ahead w m3) blk off du) := hw3
                                       have HG : Hid (∀ t, G t = du[t]!) := hG
                                       have HU : Hid (shiftUp ltInt b j du = shiftUp ltInt b (k + 1) dj) := hU
                                       clear hw3 hG hU
                                       go_wp2
                                       all_goals first
                                         | (at_region 22
                                            go_quiet (first | (go_at_call 83; refine Calls.quiet_of_same (srt_cmp_Less_u64 _ _ _)))
                                            go_wp2
                                            all_goals first
                                              | (at_region 23
                                                 have hl : ltInt (G j) (G (j - 1)) = true := by
                                                   have h : (!ltInt (G j) (G (j - 1))) = false := by assumption
                                                   simpa using h
                                                 go_region
                                                 all_goals go_wp2
                                                 go_roundw
                                                 case rel =>
                                                   refine ⟨j + 1, m3 + (nq + 1), swp du j (j - 1), by go_num, by omega, by omega, by rw [size_swp]; exact hsu, ?_, ?_⟩
                                                   · rw [HW.out, HG.out, HG.out]
                                                     exact swap_worldA _ w m3 (nq + 1) blk off du j (j - 1) (by omega) (by omega)
                                                   · rw [← HU.out, shiftUp_go ltInt b j du (by omega) (by rw [← HG.out, ← HG.out]; exact hl)]
                                                 case measure => simp [intOf]; omega)
                                              | (at_end
                                                 have hl : ltInt (G j) (G (j - 1)) = false := by
                                                   have h : (!ltInt (G j) (G (j - 1))) = true := by assumption
                                                   simpa using h
                                                 go_roundw
                                                 case rel =>
                                                   refine ⟨k, s + 1, _, du, rfl, by go_num, by omega, by omega, by omega, hsu, (by first | rfl | exact HW.out | (rw [HW.out]; exact putRow_drewN _ _ _ _ _ _ _)), ?_⟩
                                                   rw [← HO.out, pi_go ltInt a b s i k dk hs HK.out (by omega) (by omega), HD.out, show fixUp ltInt b k dj = du from by unfold fixUp; rw [if_pos (by omega), ← HU.out, shiftUp_stop ltInt b j du (Or.inr (by rw [← HG.out, ← HG.out]; exact hl))]]
                                                 case measure => simp [intOf]; omega))
                                         | (at_end
                                            go_roundw
                                            case rel =>
                                              refine ⟨k, s + 1, _, du, rfl, by go_num, by omega, by omega, by omega, hsu, (by first | rfl | exact HW.out | (rw [HW.out]; exact putRow_drewN _ _ _ _ _ _ _)), ?_⟩
                                              rw [← HO.out, pi_go ltInt a b s i k dk hs HK.out (by omega) (by omega), HD.out, show fixUp ltInt b k dj = du from by unfold fixUp; rw [if_pos (by omega), ← HU.out, shiftUp_stop ltInt b j du (Or.inl (by omega))]]
                                            case measure => simp [intOf]; omega))))
                      | (-- i - a < 2
                         have HD : Hid (fixDown ltInt a k (swp dk k (k - 1)) = (swp dk k (k - 1))) := by
                           show fixDown ltInt a k (swp dk k (k - 1)) = (swp dk k (k - 1))
                           unfold fixDown; rw [if_neg (by omega)]
                         first
                           | (at_end
                              go_roundw
                              case rel =>
                                refine ⟨k, s + 1, _, (swp dk k (k - 1)), rfl, by go_num, by omega, by omega, by omega, hs1, (by first | rfl | exact HW.out | (rw [HW.out]; exact putRow_drewN _ _ _ _ _ _ _)), ?_⟩
                                rw [← HO.out, pi_go ltInt a b s i k dk hs HK.out (by omega) (by omega), HD.out, show fixUp ltInt b k (swp dk k (k - 1)) = (swp dk k (k - 1)) from by unfold fixUp; rw [if_neg (by omega)]]
                              case measure => simp [intOf]; omega)
                           | (at_loop
                              go_loopw [10] (fun vj wr2 => ∃ (j m3 : Nat) (du : Array Int), vj = .int .i64 j ∧ k + 1 ≤ j ∧ j ≤ b ∧ du.size = d.size ∧ wr2 = putRow (Value.int .u64) (Sort.ahead w m3) blk off du ∧
                                  shiftUp ltInt b j du = shiftUp ltInt b (k + 1) (swp dk k (k - 1))) (fun vj _ => b - (intOf vj).toNat)
                              case atStart => exact ⟨k + 1, _, (swp dk k (k - 1)), by go_num, Nat.le_refl _, by omega, hs1, (by first | rfl | exact HW.out | (rw [HW.out]; exact putRow_drewN _ _ _ _ _ _ _)), rfl⟩
                              case round =>
                                obtain ⟨j, m3, du, rfl, hkj, hjb, hsu, hw3, hU⟩ := hrel
                                obtain ⟨G, hG⟩ : ∃ G : Nat → Int, ∀ t, G t = du[t]! := ⟨fun t => du[t]!, fun _ => rfl⟩
                                have hcw : ∀ t, t < d.size → wr.cell? ⟨blk, off + t, none⟩ = some (.int .u64 (G t)) := fun t ht => by
                                  rw [hw3, hG]; exact cell?_putRow _ _ _ _ d du (holds_ahead _ _ _ _ _ _ HH.out) hsu t (by omega)
                                have hfw : ∀ t, t < d.size → wr.frozen? ⟨blk, off + t, none⟩ = false := fun t ht => by
                                  rw [hw3, frozen?_putRow]; exact ((holds_ahead _ _ m3 _ _ _ HH.out) t ht).2
                                have HW : Hid (wr = putRow (Value.int .u64) (Sort.ahead w m3) blk off du) := hw3
                                have HG : Hid (∀ t, G t = du[t]!) := hG
                                have HU : Hid (shiftUp ltInt b j du = shiftUp ltInt b (k + 1) (swp dk k (k - 1))) := hU
                                clear hw3 hG hU
                                go_wp2
                                all_goals first
                                  | (at_region 22
                                     go_quiet (first | (go_at_call 83; refine Calls.quiet_of_same (srt_cmp_Less_u64 _ _ _)))
                                     go_wp2
                                     all_goals first
                                       | (at_region 23
                                          have hl : ltInt (G j) (G (j - 1)) = true := by
                                            have h : (!ltInt (G j) (G (j - 1))) = false := by assumption
                                            simpa using h
                                          go_region
                                          all_goals go_wp2
                                          go_roundw
                                          case rel =>
                                            refine ⟨j + 1, m3 + (nq + 1), swp du j (j - 1), by go_num, by omega, by omega, by rw [size_swp]; exact hsu, ?_, ?_⟩
                                            · rw [HW.out, HG.out, HG.out]
                                              exact swap_worldA _ w m3 (nq + 1) blk off du j (j - 1) (by omega) (by omega)
                                            · rw [← HU.out, shiftUp_go ltInt b j du (by omega) (by rw [← HG.out, ← HG.out]; exact hl)]
                                          case measure => simp [intOf]; omega)
                                       | (at_end
                                          have hl : ltInt (G j) (G (j - 1)) = false := by
                                            have h : (!ltInt (G j) (G (j - 1))) = true := by assumption
                                            simpa using h
                                          go_roundw
                                          case rel =>
                                            refine ⟨k, s + 1, _, du, rfl, by go_num, by omega, by omega, by omega, hsu, (by first | rfl | exact HW.out | (rw [HW.out]; exact putRow_drewN _ _ _ _ _ _ _)), ?_⟩
                                            rw [← HO.out, pi_go ltInt a b s i k dk hs HK.out (by omega) (by omega), HD.out, show fixUp ltInt b k (swp dk k (k - 1)) = du from by unfold fixUp; rw [if_pos (by omega), ← HU.out, shiftUp_stop ltInt b j du (Or.inr (by rw [← HG.out, ← HG.out]; exact hl))]]
                                          case measure => simp [intOf]; omega))
                                  | (at_end
                                     go_roundw
                                     case rel =>
                                       refine ⟨k, s + 1, _, du, rfl, by go_num, by omega, by omega, by omega, hsu, (by first | rfl | exact HW.out | (rw [HW.out]; exact putRow_drewN _ _ _ _ _ _ _)), ?_⟩
                                       rw [← HO.out, pi_go ltInt a b s i k dk hs HK.out (by omega) (by omega), HD.out, show fixUp ltInt b k (swp dk k (k - 1)) = du from by unfold fixUp; rw [if_pos (by omega), ← HU.out, shiftUp_stop ltInt b j du (Or.inl (by omega))]]
                                     case measure => simp [intOf]; omega)))))
        ·
          go_quiet (first | (go_at_call 83; refine Calls.quiet_of_same (srt_cmp_Less_u64 _ _ _)))
          go_wp2
          obtain rfl : k = b := by omega
          have hv : Sort.partialInsertionSort ltInt d a k = (dk, true) := by
            unfold Sort.partialInsertionSort
            rw [← HO.out, pi_true ltInt a k s i dk hs (by rw [← HS.out, scanSorted_stop ltInt dk k k (Or.inl (by omega))])]
          rw [hv]
          go_ret
          exact ⟨rfl, m + nq, by rw [HW.out]; exact putRow_drewN _ _ _ _ _ _ _⟩
    ·
      obtain rfl : s = 5 := by omega
      have hv : Sort.partialInsertionSort ltInt d a b = (dk, false) := by
        unfold Sort.partialInsertionSort
        rw [← HO.out, pi_end]
      rw [hv]
      go_ret
      exact ⟨rfl, n, rfl⟩
end Go.Proofs.Ytjggmimaolddkaa
