/-
  Chapter 5: contract of tumblerref05.Longest.
-/
import Derived.Test.YtkkbgpfimapnoaaReachE
import Derived.Deep.QuietTactic
import Derived.BigQuiet
namespace Go.Proofs.Ytkkbgpfimapnoaa
open Go.RowKit
set_option linter.unusedVariables false

theorem make_ints (w : World) (n : Nat) (hn : n ≤ 256) : (Instr.makeSlice 69 (.int .i64 n) (.int .i64 n)).run Try.prog w = .ok (.slice (some ⟨w.heap.size, 0, none⟩) n n) (w.alloc (.cells (ints (List.replicate n 0)).toArray 3)) := by
  obtain ⟨i0, hi0, hz0, hz1, hz2⟩ := info_parts info_int
  have h := run_make (P := Try.prog) w 69 3 i0 _ Try.underlying69 hi0 hz0 .i64 .i64 n n (by omega) (Int.le_refl _) (by rw [hz2]; omega) (by omega)
  rw [hz1, Nat.mul_one, Int.toNat_natCast, made_ints] at h
  exact h

theorem leads_is (l : List Ins) (A : Option Addr) (n c : Nat) (w : World) (hr : RdI w w.heap.size A n l) (k j : Nat) (hk : k < n) (hj : j < n) (i : Ins) (hi : l[k]? = some i) {z : Bool} (hz : decide ((j : Int) ∈ nextP i k) = z) :
    Calls Try.prog 50 #[.slice A n c, .int .i64 k, .int .i64 j] w fun e w' => e = .returned (.bool z) ∧ w' = w := by
  subst hz
  exact (leads_any l A n c w hr k j hk hj i hi).mono fun e w' ⟨h1, h2⟩ => ⟨h1, h2.symm⟩
theorem Bk.drewN {w : World} {g : Nat} {t : TypeId} {cs : Array Value} (h : Bk w g t cs) (a : Nat) : Bk (w.drewN a) g t cs := h

theorem rd_bool {w : World} {B n b o : Nat} {M : List Bool} (h : Rd w B 1 (some ⟨b, o, none⟩) n (bools M)) {k : Nat} (hk : k < n) : w.cell? ⟨b, o + k, none⟩ = some (.bool (M.getD k false)) := by
  obtain ⟨b', o', e, _, hc⟩ := h.at_ (by omega)
  injection e with e
  injection e with e1 e2
  subst e1; subst e2
  have hl : M.length = n := by simpa [bools] using h.len
  exact hc k _ (bools_at (by omega))

/-- What Longest comes to. -/
def LongestPost (l : List Ins) (w : World) (e : Ending) (w' : World) : Prop :=
  ∃ x b, e = .returned (.tuple #[.int .i64 x, .bool b]) ∧ Below w.heap.size w w' ∧ LongestIs l x b

/-- Within the inner loop: place k has the most of its next places below j. -/
structure Within (l : List Ins) (vs : List Int) (k j : Nat) (i : Ins) : Prop where
  down : Down l vs (k + 1)
  most : IsMost vs k (fun q => q < j ∧ (q : Int) ∈ nextP i k) (vs.getD k 0)
theorem Down.set_ {l : List Ins} {vs : List Int} {k : Nat} (h : Down l vs (k + 1)) (m : Int) : Down l (vs.set k m) (k + 1) := ⟨h.most.set_ m, h.noback⟩
theorem Within.init {l : List Ins} {vs : List Int} {k : Nat} {i : Ins} (h : Down l vs (k + 1)) (hk : k < l.length) : Within l (vs.set k 1) k (k + 1) i := by
  refine ⟨h.set_ 1, ?_⟩
  rw [getD_set_eq (by rw [h.most.len]; exact hk)]
  exact IsMost.init _ _ fun j hj hS => by omega
theorem Within.more {l : List Ins} {vs : List Int} {k j : Nat} {i : Ins} (h : Within l vs k j i) (hk : k < l.length) (hj : k < j) (hz : (j : Int) ∈ nextP i k) (hgt : vs.getD k 0 < vs.getD j 0 + 1) : Within l (vs.set k (vs.getD j 0 + 1)) k (j + 1) i := by
  refine ⟨h.down.set_ _, ?_⟩
  rw [getD_set_eq (by rw [h.down.most.len]; exact hk)]
  have hm := h.most.more (q := j) (S' := fun q => q < j + 1 ∧ (q : Int) ∈ nextP i k) hj fun q hq => by
    constructor
    · rintro ⟨h1, h2⟩
      by_cases e : q = j
      · exact .inr e
      · exact .inl ⟨by omega, h2⟩
    · rintro (⟨h1, h2⟩ | rfl)
      · exact ⟨by omega, h2⟩
      · exact ⟨by omega, hz⟩
  rw [show max (vs.getD k 0) (vs.getD j 0 + 1) = vs.getD j 0 + 1 by omega] at hm
  exact hm.congr (fun q hq => getD_set_ne (by omega)) fun q _ => Iff.rfl
theorem Within.skip {l : List Ins} {vs : List Int} {k j : Nat} {i : Ins} (h : Within l vs k j i) (hn : ¬ ((j : Int) ∈ nextP i k) ∨ vs.getD j 0 + 1 ≤ vs.getD k 0) : Within l vs k (j + 1) i := by
  refine ⟨h.down, h.most.one, fun q hq hS => ?_, ?_⟩
  · by_cases e : q = j
    · subst e
      rcases hn with hn | hn
      · exact absurd hS.2 hn
      · exact hn
    · exact h.most.ge q hq ⟨by have := hS.1; omega, hS.2⟩
  · rcases h.most.is with e | ⟨q, hq, hS, e⟩
    · exact .inl e
    · exact .inr ⟨q, hq, ⟨by have := hS.1; omega, hS.2⟩, e⟩
theorem Within.done {l : List Ins} {vs : List Int} {k : Nat} {i : Ins} (h : Within l vs k l.length i) (hb : ∀ j : Nat, (j : Int) ∈ nextP i k → j < l.length) (hi : l[k]? = some i) (hnb : Reaches l k → i.op ≠ 19) : Down l vs k := by
  refine ⟨h.down.most.down hi (h.most.congr (fun _ _ => rfl) fun q _ => ⟨fun hq => ⟨hb q hq, hq⟩, fun hq => hq.2⟩), fun q i' hq hr hi' => ?_⟩
  by_cases e : q = k
  · subst e
    rw [hi] at hi'
    obtain rfl : i = i' := by simpa using hi'
    exact hnb hr
  · exact h.down.noback q i' (by omega) hr hi'
theorem Within.bound {l : List Ins} {vs : List Int} {k j : Nat} {i : Ins} (h : Within l vs k j i) (hb : ∀ (q j : Nat) (i : Ins), l[q]? = some i → (j : Int) ∈ nextP i q → j < l.length) {q : Nat} (hq : k < q) (hl : q < l.length) : 1 ≤ vs.getD q 0 ∧ vs.getD q 0 ≤ l.length - q :=
  h.down.most.bound hb l.length q (by omega) (by omega) hl

set_option maxHeartbeats 4000000 in
theorem rlongest_any (l : List Ins) (A : Option Addr) (n c : Nat) (w : World) (hr : RdI w w.heap.size A n l) (hok : ∀ i ∈ l, i.Ok) (hp : rightP l = true) :
    Calls Try.prog 40 #[.slice A n c] w (LongestPost l w) := by
  obtain ⟨hn0, hn256, _, _⟩ := right_parts hp
  have hl := hr.insLen
  rw [hl] at hn0 hn256
  have HL := Lib.hid hl
  have HR := Lib.hid hr
  have HW := Lib.hid (fun (k j : Nat) (i : Ins) (hi : l[k]? = some i) hj => right_lt hp hok k j i hi hj)
  have HK := Lib.hid hok
  have HP := Lib.hid hp
  clear hr hok hp hl
  go_enter Try.func40, Try.ntmps40
  go_wp2_with fail
  refine (rreach_any l A n c _ HR.out HK.out HP.out).mono ?_
  rintro e w1 ⟨v, M, rfl, hown, hb, hM⟩
  have hMn : M.length = n := hM.len.trans HL.out
  rw [hMn] at hown
  obtain ⟨A1, c1, rfl, r1⟩ := Rd.of_own hown
  obtain ⟨b1, o1, rfl, hbb1⟩ := r1.addr (by omega)
  have R1 := Lib.hid r1
  have HM := Lib.hid hM
  have HMn := Lib.hid hMn
  have HB1 := Lib.hid hb
  have hsz1 := hb.size
  clear hM hMn hb hown r1
  have hmk := make_ints w1 n hn256
  have B0 := Lib.hid (Bk.new w1 3 (ints (List.replicate n 0)).toArray)
  have D0 : Hid (Down l (List.replicate n 0) n) := ⟨by have h := MostFrom.end_ (l := l) (vs := List.replicate n 0) (by simp [HL.out]); rw [HL.out] at h; exact h, fun q i hq _ hi => by have := (List.getElem?_eq_some_iff.1 hi).1; rw [HL.out] at this; omega⟩
  generalize hV : List.replicate n (0 : Int) = V0 at *
  have HV := Lib.hid hV
  clear hV
  go_wp2
  go_loopw [6] (fun t wr => ∃ (d : Nat) (vs : List Int), (d ≤ n ∧ t = .int .i64 ((d : Int) - 1)) ∧ Hid (Down l vs d) ∧ Bk wr w1.heap.size 3 (ints vs).toArray ∧ Below w1.heap.size w1 wr) (fun t _ => (intOf t + 1).toNat)
  case atStart => exact ⟨n, V0, ⟨by omega, rfl⟩, D0, B0.out, (Below.refl _ _).alloc (Nat.le_refl _) _⟩
  case round =>
    obtain ⟨d, vs, ⟨hdn, rfl⟩, HD, hbk, hb⟩ := hrel
    obtain ⟨wo, rfl⟩ : ∃ wo : World, wo = wr := ⟨_, rfl⟩
    have HB := Lib.hid hb
    have HK1 := Lib.hid hbk
    clear hb hbk
    have HBW := Lib.hid (HB1.out.trans (HB.out.mono hsz1))
    rcases d with _ | k
    · have e0 : ((0 : Nat) : Int) - 1 = -1 := by omega
      rw [e0]
      have hlen := HD.out.most.len
      have c0 := bk_int (k := 0) HK1.out (by rw [hlen, HL.out]; exact hn0)
      clear hlen e0
      generalize hx : vs.getD 0 0 = x at c0
      have HX := Lib.hid hx
      clear hx
      go_wp2
      go_ret2
      exact ⟨_, _, rfl, HBW.out, by rw [← HX.out]; exact HD.out.done⟩
    · have e0 : ((k + 1 : Nat) : Int) - 1 = (k : Int) := by omega
      rw [e0]
      clear e0
      have hkn : k < n := by omega
      have hkl : k < l.length := by rw [HL.out]; exact hkn
      obtain ⟨i, hi⟩ : ∃ i, l[k]? = some i := ⟨l[k]'hkl, List.getElem?_eq_getElem _⟩
      have HI := Lib.hid hi
      have HKL := Lib.hid hkl
      have rI := HR.out.below HBW.out
      obtain ⟨bI, oI, i', hA, hbI, hi', ci0, _, _, _, _⟩ := rI.insAt hkn
      subst hA
      rw [hi] at hi'
      obtain rfl : i = i' := by simpa using hi'
      clear hi hi' hkl
      have RI := Lib.hid (rI.more HBW.out.size)
      clear rI
      have cm := rd_bool (R1.out.below HB.out) hkn
      have fk := HK1.out.frozen k
      have cv := bk_int (k := k) HK1.out (by rw [HD.out.most.len, HL.out]; exact hkn)
      generalize vs.getD k 0 = xv at cv
      have hgo : (M.getD k false = true ∧ i.op = 19) ∨ (M.getD k false = false ∧ Hid (Reaches l k → i.op ≠ 19)) ∨ (M.getD k false = true ∧ (i.op == 19) = false ∧ Hid (Reaches l k → i.op ≠ 19)) := by
        by_cases ho : i.op = 19
        · cases hm : M.getD k false
          · refine .inr (.inl ⟨rfl, fun hr => ?_⟩)
            have h1 := (HM.out.iff k).2 hr
            have h2 := getD_some (by rw [HMn.out]; exact hkn) hm
            rw [h1] at h2; simp at h2
          · exact .inl ⟨rfl, ho⟩
        · cases hm : M.getD k false
          · exact .inr (.inl ⟨rfl, fun _ => ho⟩)
          · exact .inr (.inr ⟨rfl, by simpa using ho, fun _ => ho⟩)
      have HI0 : Hid (Within l (vs.set k 1) k (k + 1) i) := Within.init HD.out HKL.out
      have HBs : Hid (Below w1.heap.size w1 (wo.setCell ⟨w1.heap.size, k, none⟩ (.int .i64 1))) := HB.out.setCell (p := ⟨w1.heap.size, k, none⟩) (Nat.le_refl _) _
      have HKs : Hid (Bk (wo.setCell ⟨w1.heap.size, k, none⟩ (.int .i64 1)) w1.heap.size 3 (ints (vs.set k 1)).toArray) := by
        have h := HK1.out.set_ k (.int .i64 1)
        rw [ints_arr] at h
        exact h
      rcases hgo with ⟨hm, ho⟩ | ⟨hm, HNB⟩ | ⟨hm, ho, HNB⟩
      · have HR1 : Hid (Reaches l k) := (HM.out.iff k).1 (getD_some (by rw [HMn.out]; exact hkn) hm)
        rw [hm] at cm
        have HO := Lib.hid ho
        rw [ho] at ci0
        clear hm ho
        go_wp2
        go_ret2
        exact ⟨_, _, rfl, HBW.out, .inl ⟨⟨k, i, HR1.out, HI.out, HO.out⟩, rfl, rfl⟩⟩
      all_goals
        rw [hm] at cm
        clear hm
        go_wp2
        go_loopw [7] (fun t wr => ∃ (j : Nat) (vs' : List Int), ((k < j ∧ j ≤ n) ∧ t = .int .i64 j) ∧ Hid (Within l vs' k j i) ∧ Bk wr w1.heap.size 3 (ints vs').toArray ∧ Below w1.heap.size w1 wr) (fun t _ => n - (intOf t).toNat)
        case atStart => exact ⟨k + 1, vs.set k 1, ⟨by omega, by go_num⟩, HI0, HKs.out, HBs.out⟩
        case round =>
          obtain ⟨j, vs', ⟨⟨hkj, hjn⟩, rfl⟩, HW1, hbk, hb⟩ := hrel
          obtain ⟨wi, rfl⟩ : ∃ wi : World, wi = wr := ⟨_, rfl⟩
          have HB2 := Lib.hid hb
          have HK2 := Lib.hid hbk
          have HJ := Lib.hid hkj
          clear hb hbk cm fk ci0 cv
          by_cases hjl : j < n
          · have eV : vs'.length = n := HW1.out.down.most.len.trans HL.out
            have cj := bk_int (k := j) HK2.out (by rw [eV]; exact hjl)
            have ck := bk_int (k := k) HK2.out (by rw [eV]; exact hkn)
            have fk := HK2.out.frozen k
            obtain ⟨hy1, hy2⟩ := HW1.out.bound HW.out hkj (by rw [HL.out]; exact hjl)
            rw [HL.out] at hy2
            have HWm := fun hz hgt => Lib.hid (HW1.out.more HKL.out hkj hz hgt)
            have HWs := fun hn => Lib.hid (HW1.out.skip hn)
            have HS : ∀ x : Int, Hid (Bk (wi.setCell ⟨w1.heap.size, k, none⟩ (.int .i64 x)) w1.heap.size 3 (ints (vs'.set k x)).toArray) := fun x => by
              have h := HK2.out.set_ k (.int .i64 x)
              rw [ints_arr] at h
              exact h
            generalize vs'.getD j 0 = y at *
            generalize vs'.getD k 0 = x at *
            have HRi := Lib.hid ((HR.out.below (HB1.out.trans (HB2.out.mono hsz1))).more (HB1.out.trans (HB2.out.mono hsz1)).size)
            clear eV
            cases hz : decide ((j : Int) ∈ nextP i k)
            · have hnx := Lib.hid (HWs (.inl (by simpa using hz)))
              have HZ := Lib.hid hz
              clear hz HWm HWs
              go_wp2
              go_quiet ((go_at_call 50; exact Calls.quiet_of_same (leads_is l _ n c _ (HRi.out.drewN _) k j hkn hjl i HI.out HZ.out)))
              go_wp2
              go_roundw
              case rel => exact ⟨j + 1, vs', ⟨by have := HJ.out; omega, by go_num⟩, hnx, HK2.out.drewN _, below_drewN HB2.out _⟩
              case measure => simp [intOf]; omega
            · have HZ := Lib.hid hz
              have hzz := of_decide_eq_true hz
              by_cases hgt : x < y + 1
              · have hnx := HWm hzz hgt
                clear hz hzz HWm HWs
                go_wp2
                go_quiet ((go_at_call 50; exact Calls.quiet_of_same (leads_is l _ n c _ (HRi.out.drewN _) k j hkn hjl i HI.out HZ.out)))
                go_wp2
                go_roundw
                case rel => exact ⟨j + 1, vs'.set k (y + 1), ⟨by have := HJ.out; omega, by go_num⟩, hnx, HS (y + 1), (below_drewN HB2.out _).setCell (p := ⟨w1.heap.size, k, none⟩) (Nat.le_refl _) _⟩
                case measure => simp [intOf]; omega
              · have hnx := HWs (.inr (by omega))
                clear hz hzz HWm HWs
                have hgt' : decide (x < y + 1) = false := by simpa using hgt
                go_wp2
                go_quiet ((go_at_call 50; exact Calls.quiet_of_same (leads_is l _ n c _ (HRi.out.drewN _) k j hkn hjl i HI.out HZ.out)))
                go_wp2
                go_roundw
                case rel => exact ⟨j + 1, vs', ⟨by have := HJ.out; omega, by go_num⟩, hnx, HK2.out.drewN _, below_drewN HB2.out _⟩
                case measure => simp [intOf]; omega
          · obtain rfl : n = j := by omega
            have HDn := Lib.hid (Within.done (by rw [HL.out]; exact HW1.out) (fun j hj => HW.out k j i HI.out hj) HI.out HNB.out)
            go_wp2
            go_roundw
            case rel => exact ⟨k, vs', ⟨by omega, rfl⟩, HDn, HK2.out, HB2.out⟩
            case measure => simp [intOf]
end Go.Proofs.Ytkkbgpfimapnoaa
