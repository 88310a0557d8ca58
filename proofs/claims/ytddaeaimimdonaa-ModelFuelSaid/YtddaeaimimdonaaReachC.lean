/-
  Chapter 5: contract of check.Reach.
-/
import Derived.Test.YtddaeaimimdonaaReachB
import Derived.Laws.OwnMore
import Derived.Below
namespace Go.Proofs.Ytddaeaimimdonaa
open Go.RowKit
set_option linter.unusedVariables false

def isFalse : Value → Bool
  | .bool false => true
  | _ => false
/-- How many of a block's cells are no mark. -/
def unmarked (w : World) (g : Nat) : Nat := match w.heap[g]? with
  | some (.cells cs _ _) => cs.toList.countP isFalse
  | _ => 0
theorem unmarked_bk {w : World} {g : Nat} {t : TypeId} {M : List Bool} (h : Bk w g t (bools M).toArray) : unmarked w g = M.countP (· == false) := by
  unfold Bk at h
  rw [unmarked, h]
  show ((bools M).toArray.toList).countP isFalse = _
  rw [List.toList_toArray, bools, List.countP_map]
  congr 1
  funext b
  cases b <;> rfl
theorem countP_set {M : List Bool} {k : Nat} (h : M[k]? = some false) : (M.set k true).countP (· == false) + 1 = M.countP (· == false) := by
  induction M generalizing k with
  | nil => simp at h
  | cons b M ih =>
    cases k with
    | zero => simp at h; subst h; simp
    | succ k =>
      simp at h
      have := ih h
      rw [List.set_cons_succ, List.countP_cons, List.countP_cons]
      omega

theorem info_int : (Try.prog.info? 3).map (fun i => (i.zero, i.size, i.bytes)) = some (some (.int .i64 0), 1, 8) := by kernel_rfl
theorem nextP_le (i : Ins) (k : Nat) : (nextP i k).length ≤ 2 := by
  unfold nextP; (repeat' split) <;> simp

/-- A slice's length. -/
def rowLen : Value → Nat
  | .slice _ n _ => n
  | _ => 0
/-- What Reach comes to. -/
def ReachPost (l : List Ins) (w : World) (e : Ending) (w' : World) : Prop :=
  ∃ v M, e = .returned v ∧ w'.ownsRow w.heap.size 4 1 v M.length (bools M) ∧ Below w.heap.size w w' ∧ (if rightP l then Marks l M else M = [])

theorem made_bools (n : Nat) : madeCells (Value.bool false).cells n = (bools (List.replicate n false)).toArray := by
  apply Array.ext'
  show (madeCells #[Value.bool false] n).toList = _
  rw [toList_madeCells_one, bools, List.map_replicate]
theorem info_bool : (Try.prog.info? 4).map (fun i => (i.zero, i.size, i.bytes)) = some (some (.bool false), 1, 1) := by kernel_rfl
theorem make_bools (w : World) (n : Nat) (hn : n ≤ 256) : (Instr.makeSlice 99 (.int .i64 n) (.int .i64 n)).run Try.prog w = .ok (.slice (some ⟨w.heap.size, 0, none⟩) n n) (w.alloc (.cells (bools (List.replicate n false)).toArray 4)) := by
  obtain ⟨i0, hi0, hz0, hz1, hz2⟩ := info_parts info_bool
  have h := run_make (P := Try.prog) w 99 4 i0 _ Try.underlying99 hi0 hz0 .i64 .i64 n n (by omega) (Int.le_refl _) (by rw [hz2]; omega) (by omega)
  rw [hz1, Nat.mul_one, Int.toNat_natCast, made_bools] at h
  exact h

theorem Bk.own {w : World} {g : Nat} {t : TypeId} {M : List Bool} {base : Nat} (h : Bk w g t (bools M).toArray) (hb : base ≤ g) (hm : M.length ≤ maxLen) :
    w.ownsRow base t 1 (.slice (some ⟨g, 0, none⟩) M.length M.length) M.length (bools M) := by
  refine ⟨by simp [bools], .inr ⟨g, M.length, (bools M).toArray, rfl, hb, h, Nat.le_refl _, hm, by simp [bools], ?_⟩⟩
  rw [List.take_of_length_le (by simp [bools])]

theorem elem_ints : Try.prog.underlying 101 = some (.slice (Try.prog.elem 101)) := by kernel_rfl
theorem size_ints (W : World) : (sizeOf (Try.prog.elem 101)).run Try.prog W = .ok 1 W := by kernel_rfl
/-- A slice's head has the slice's own place. -/
theorem cut_at {P : Program} {n c : Nat} {A : Option Addr} (T : TypeId) {size : Nat} (hT : P.underlying T = some (.slice (P.elem T))) (hs : ∀ W : World, (sizeOf (P.elem T)).run P W = .ok size W) (hn : n ≤ maxLen) (hnc : n ≤ c) (h : Nat) (hh : h ≤ n) :
    ∀ W : World, (Instr.sliceAt T (.slice A n c) none (some (.int .i64 (h : Int))) none).run P W = .ok (.slice A h c) W := by
  intro W
  have hm : h ≤ maxLen := by omega
  unfold maxLen at hm
  rw [run_sliceAt_slice W T _ _ _ _ hT, run_slice_h W T A n c hT .i64 h (by omega) (by omega), hs]
  by_cases hc : c = 0
  · simp [Result.andThen, sliced, hc]
  · simp [Result.andThen, sliced, hc, Addr.add]

theorem nats_of {L : List Int} (h : ∀ x ∈ L, ∃ j : Nat, x = j) : ∃ N : List Nat, L = N.map Int.ofNat := by
  induction L with
  | nil => exact ⟨[], rfl⟩
  | cons x L ih =>
    obtain ⟨j, rfl⟩ := h x (by simp)
    obtain ⟨N, hN⟩ := ih (fun y hy => h y (by simp [hy]))
    exact ⟨j :: N, by rw [hN]; rfl⟩
theorem nats_mem {N : List Nat} (j : Nat) : (j : Int) ∈ N.map Int.ofNat ↔ j ∈ N := by
  rw [List.mem_map]
  exact ⟨fun ⟨a, ha, e⟩ => by have : a = j := by exact Int.ofNat.inj e
                              exact this ▸ ha, fun h => ⟨j, h, rfl⟩⟩
theorem right_imm {l : List Ins} (h : rightP l = true) {k : Nat} {i : Ins} (hi : l[k]? = some i) : 17 ≤ i.op ∧ i.op ≤ 19 → i.imm ≤ 9223372036854775807 := by
  obtain ⟨hn, h256, hall, _⟩ := right_parts h
  have hk : k < l.length := (List.getElem?_eq_some_iff.1 hi).1
  have ho := hall k hk
  rw [oneAt, hi] at ho
  obtain ⟨hp, h1, h2⟩ := oneE_zero ho
  intro hop
  have : i.op = 17 ∨ i.op = 18 ∨ i.op = 19 := by omega
  rcases this with e | e | e
  · have := h1 (.inl e); omega
  · have := h1 (.inr e); omega
  · have := h2 e; omega

theorem reach_bad (l : List Ins) (A : Option Addr) (n c : Nat) (w : World) (hr : RdI w w.heap.size A n l) (hok : ∀ i ∈ l, i.Ok) (hp : rightP l = false) :
    Calls Try.prog 42 #[.slice A n c] w (ReachPost l w) := by
  have HR := Lib.hid hr
  have HK := Lib.hid hok
  have HP := Lib.hid hp
  clear hr hok hp
  go_enter Try.func42, Try.ntmps42
  go_wp2_with fail
  refine (right_any l A n c _ HR.out HK.out).mono ?_
  rintro e w1 ⟨rfl, hb⟩
  have HB := Lib.hid hb
  clear hb
  rw [HP.out]
  go_wp2
  go_ret
  exact ⟨_, [], rfl, World.ownsRow_nil _ _ _ _, HB.out, by rw [if_neg (by rw [HP.out]; simp)]⟩

set_option maxRecDepth 100000 in
set_option maxHeartbeats 4000000 in
theorem reach_good (l : List Ins) (A : Option Addr) (n c : Nat) (w : World) (hr : RdI w w.heap.size A n l) (hok : ∀ i ∈ l, i.Ok) (hp : rightP l = true) :
    Calls Try.prog 42 #[.slice A n c] w (ReachPost l w) := by
  obtain ⟨i0, hi0, hz0, hz1, hz2⟩ := info_parts info_int
  obtain ⟨hn0, hn256, _, _⟩ := right_parts hp
  have hl := hr.insLen
  rw [hl] at hn0 hn256
  have HL := Lib.hid hl
  have HR := Lib.hid hr
  have HK := Lib.hid hok
  have HP := Lib.hid hp
  clear hr hok hp hl
  go_enter Try.func42, Try.ntmps42
  go_wp2_with fail
  refine (right_any l A n c _ HR.out HK.out).mono ?_
  rintro e w1 ⟨rfl, hb⟩
  have hsz := hb.size
  have HB := Lib.hid hb
  clear hb
  rw [HP.out]
  have hmk := make_bools w1 n hn256
  have B0 := Lib.hid (Bk.new w1 4 (bools (List.replicate n false)).toArray)
  have G0 := Lib.hid (Going.init (l := l) (by rw [HL.out]; exact hn0))
  generalize hM0 : List.replicate n false = M0 at *
  go_wp2
  go_loopw [4] (fun t wr => ∃ (M : List Bool) (T : List Nat), (Hid (Going l M T) ∧ Hid (T.length + 2 * M.countP (· == false) ≤ 600)) ∧ wr.ownsRow (w1.heap.size + 1) 3 1 t T.length (ints (T.map Int.ofNat)) ∧ Bk wr w1.heap.size 4 (bools M).toArray ∧ Below w.heap.size w wr) (fun t wr => 3 * unmarked wr w1.heap.size + rowLen t)
  case atStart =>
    refine ⟨M0, [0], ⟨?_, ?_⟩, own_newAt _ _ _ _ (by simp) rfl (by simp [maxLen]) (by simp), B0.out.alloc _, (HB.out.alloc hsz _).alloc (by simp; omega) _⟩
    · rw [← hM0, ← HL.out]
      exact G0
    · show _ ≤ _
      have : M0.countP (· == false) ≤ M0.length := List.countP_le_length
      have e : M0.length = n := by rw [← hM0]; simp
      rw [e] at this
      show 1 + 2 * _ ≤ 600
      omega
  case round =>
    obtain ⟨M, T, ⟨HG, HTL⟩, hown, hbk, hb⟩ := hrel
    obtain ⟨wo, rfl⟩ : ∃ wo : World, wo = wr := ⟨_, rfl⟩
    have hszo := hb.size
    have HBo := Lib.hid hb
    have HO := Lib.hid hown
    have HK1 := Lib.hid hbk
    obtain ⟨A1, c1, hv, hc1, r1⟩ := Rd.of_own_cap hown
    subst hv
    have R1 := Lib.hid r1
    clear hb hown hbk r1
    rcases List.eq_nil_or_concat T with hT | ⟨T', k, hT⟩
    · subst hT
      go_wp2
      go_ret
      have e : M.length = n := HG.out.len.trans HL.out
      have o := HK1.out.own (base := w.heap.size) hsz (by rw [e]; simp [maxLen]; omega)
      rw [e] at o
      exact ⟨_, M, rfl, by rw [e]; exact o, HBo.out, by rw [if_pos HP.out]; exact HG.out.done⟩
    · rw [List.concat_eq_append] at hT
      subst hT
      have hkT := HG.out.stack k (by simp)
      have hkn : k < n := by rw [← HL.out]; exact hkT.2
      obtain ⟨i, hi⟩ : ∃ i, l[k]? = some i := ⟨l[k]'hkT.2, List.getElem?_eq_getElem _⟩
      have hio := HK.out i (List.mem_of_getElem? hi)
      obtain ⟨N, hN⟩ := nats_of (L := nextP i k) (fun x hx => (right_next HP.out hi hio.imm.1 hx).imp fun j h => h.1)
      have HN := Lib.hid hN
      have HI := Lib.hid hi
      have HOI := Lib.hid hio
      obtain ⟨q, hq⟩ : ∃ q, (T' ++ [k]).length = q := ⟨_, rfl⟩
      obtain ⟨p, hp⟩ : ∃ p, T'.length = p := ⟨_, rfl⟩
      have hqp : q = p + 1 := by simp at hq; omega
      rw [hq] at HO R1 hc1 ⊢
      have hq63 := R1.out.le
      have hq1 : (q : Int) - 1 = (p : Int) := by omega
      have hq0 : (0 : Int) < (q : Int) := by omega
      have hpq : p < q := by omega
      obtain ⟨b2, o2, hA, hbB⟩ := R1.out.addr (by omega)
      subst hA
      have cp : wo.cell? ⟨b2, o2 + p, none⟩ = some (.int .i64 (k : Int)) := by
        obtain ⟨b, o, e, _, hc⟩ := R1.out.at_ (by omega)
        simp at e
        obtain ⟨rfl, rfl⟩ := e
        exact hc p _ (by simp [ints, ← hp])
      have scut := cut_at (P := Try.prog) (n := q) (c := c1) (A := some ⟨b2, o2, none⟩) 101 elem_ints size_ints hq63 hc1 p (by omega)
      have hp600 : p ≤ 600 := by have h := HTL.out; rw [hq] at h; omega
      have hp63 : (p : Int) ≤ 9223372036854775806 := by have := hq63; unfold maxLen at this; omega
      have HQ := Lib.hid hqp
      have HP' := Lib.hid hp
      have HQ' := Lib.hid hq
      have eM : Hid (M.length = n) := HG.out.len.trans HL.out
      have hpop := own_pop (n := p) (by rw [← HQ.out]; exact HO.out)
      have hpt : (ints ((T' ++ [k]).map Int.ofNat)).take p = ints (T'.map Int.ofNat) := by
        rw [List.map_append, ints_append, List.take_append_of_le_length (by simp [ints, hp]), List.take_of_length_le (by simp [ints, hp])]
      rw [hpt] at hpop
      have HPOP := Lib.hid hpop
      clear hN hi hio hkT hq hp hqp hpop hpt HO
      have ck := HK1.out.cell k
      have fk := HK1.out.frozen k
      have ek : (bools M).toArray[k]? = some (.bool (M.getD k false)) := by
        rw [List.getElem?_toArray]; exact bools_at (by rw [eM.out]; exact hkn)
      rw [ek] at ck
      clear ek
      cases hm : M.getD k false
      · rw [hm] at ck
        have hmk2 : M[k]? = some false := by
          rw [List.getD_eq_getElem?_getD] at hm
          have hlt : k < M.length := by rw [eM.out]; exact hkn
          rw [List.getElem?_eq_getElem hlt] at hm ⊢
          simp at hm; rw [hm]
        have HC := Lib.hid (countP_set hmk2)
        have HG' := Lib.hid (HG.out.mark HI.out (N := N) (fun j => by rw [HN.out]; exact nats_mem j) (fun j hj => by
          obtain ⟨j', e, hj'⟩ := right_next HP.out HI.out HOI.out.imm.1 (x := (j : Int)) (by rw [HN.out]; exact (nats_mem j).2 hj)
          have : j = j' := Int.ofNat.inj e
          rw [this]; exact hj'))
        have HU : Hid (unmarked wo w1.heap.size = M.countP (· == false)) := unmarked_bk HK1.out
        clear hm hmk2
        have hgw : w1.heap.size < wo.heap.size := HK1.out.lt
        have HBs := Lib.hid (HBo.out.setCell (p := ⟨w1.heap.size, k, none⟩) hsz (.bool true))
        have HKs : Hid (Bk (wo.setCell ⟨w1.heap.size, k, none⟩ (.bool true)) w1.heap.size 4 (bools (M.set k true)).toArray) := by
          have h := HK1.out.set_ k (.bool true)
          rw [bools_arr] at h
          exact h
        have HPs := Lib.hid (ownsRow_setCell_below HPOP.out (a := ⟨w1.heap.size, k, none⟩) (by simp) (.bool true))
        have hm2 := nextP_le i k
        have tok1 : True := trivial
        go_wp2_with (first
          | (go_at_call 43
             refine (next_any l A n c _ ((HR.out.below HBs.out).more HBs.out.size) k hkn (by omega) i HI.out HOI.out.imm.1 (right_imm HP.out HI.out)).mono ?_
             rintro e w4 ⟨v4, rfl, hown4, hb4⟩
             obtain ⟨A4, c4, hv4, hc4, r4⟩ := Rd.of_own_cap hown4
             subst hv4
             have HB4 := Lib.hid (HBs.out.trans (hb4.mono HBs.out.size))
             have HK4 := Lib.hid (HKs.out.below hb4 HKs.out.lt)
             have HP4 := Lib.hid (own_below HPs.out hb4)
             have R4 := Lib.hid r4
             have hz4 := HK4.out.lt
             clear hown4 hb4 r4)
          | (at_builtin
             have _t := tok1
             go_must (
               refine wpList_app _ rfl (.tmp 35) (.tmp 38) 101 rfl (w1.heap.size + 1) 3 i0 _ 1 8 Try.underlying101 hi0 hz0 hz1 hz2 rfl (by omega) _ p _ rfl HP4.out _ _ (nextP i k).length c4 _ rfl R4.out (ints_one _) ?_ ?_ ?_ ?_
               · simp only [maxLen]; omega
               · omega
               · omega
               intro v5 w5 hown5 hg5 _
               rw [← ints_append, HN.out, ← List.map_append, List.length_map] at hown5
               have HO5 := Lib.hid hown5
               have HB5 := Lib.hid (below_own HB4.out HP4.out hg5 (by omega) HB4.out.size)
               have HK5 := Lib.hid (HK4.out.grown hg5 (fun e => by have := (HP4.out.lt _ e).1; omega))
               clear hown5 hg5 _t tok1)))
        go_roundw
        case rel => exact ⟨_, _, ⟨HG'.out, by show _ ≤ _; have h := HTL.out; rw [HQ'.out] at h; rw [List.length_append, HP'.out]; have h2 := HC.out; have h3 := congrArg List.length HN.out; rw [List.length_map] at h3; omega⟩, by rw [List.length_append, HP'.out]; exact HO5.out, HK5.out, HB5.out⟩
        case measure =>
          have U5 := unmarked_bk HK5.out
          obtain ⟨A5, c5, hv5, _⟩ := Rd.of_own HO5.out
          have h2 := HC.out
          have h3 := congrArg List.length HN.out
          rw [List.length_map] at h3
          have h4 := HQ.out
          rw [U5, HU.out, hv5]
          show 3 * _ + (p + N.length) < 3 * _ + q
          omega
      · rw [hm] at ck
        have hmk2 : M[k]? = some true := by
          rw [List.getD_eq_getElem?_getD] at hm
          cases e : M[k]? with
          | none => rw [e] at hm; simp at hm
          | some b => rw [e] at hm; simp at hm; rw [hm]
        have HG' := Lib.hid (HG.out.seen hmk2)
        clear hm hmk2
        go_wp2
        go_roundw
        case rel => exact ⟨M, T', ⟨HG'.out, by show _ ≤ _; have h := HTL.out; rw [HQ'.out] at h; rw [HP'.out]; omega⟩, by rw [HP'.out]; exact HPOP.out, HK1.out, HBo.out⟩
        case measure => simp [rowLen]; omega

theorem reach_any (l : List Ins) (A : Option Addr) (n c : Nat) (w : World) (hr : RdI w w.heap.size A n l) (hok : ∀ i ∈ l, i.Ok) :
    Calls Try.prog 42 #[.slice A n c] w (ReachPost l w) := by
  cases hp : rightP l
  · exact reach_bad l A n c w hr hok hp
  · exact reach_good l A n c w hr hok hp
end Go.Proofs.Ytddaeaimimdonaa
