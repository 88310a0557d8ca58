/-
  Chapter 5: contract of check.Longest.
-/
import Derived.Test.YtddaeaimimdonaaReachG
import Derived.StillTailTactics
namespace Go.Proofs.Ytddaeaimimdonaa
open Go.RowKit
set_option linter.unusedVariables false

/-- Within the inner loop: place k has the most of the first j of its next places. -/
structure WithinN (l : List Ins) (vs : List Int) (k j : Nat) (i : Ins) (N : List Nat) : Prop where
  down : Down l vs (k + 1)
  most : IsMost vs k (fun q => q ∈ N.take j) (vs.getD k 0)
theorem WithinN.init {l : List Ins} {vs : List Int} {k : Nat} {i : Ins} {N : List Nat} (h : Down l vs (k + 1)) (hk : k < l.length) : WithinN l (vs.set k 1) k 0 i N := by
  refine ⟨h.set_ 1, ?_⟩
  rw [getD_set_eq (by rw [h.most.len]; exact hk)]
  exact IsMost.init _ _ fun j hj hS => by simp at hS
theorem mem_take_succ {N : List Nat} {j q : Nat} {t : Nat} (ht : N[j]? = some t) : q ∈ N.take (j + 1) ↔ (q ∈ N.take j ∨ q = t) := by
  rw [List.take_add_one, ht]
  simp
theorem WithinN.more {l : List Ins} {vs : List Int} {k j t : Nat} {i : Ins} {N : List Nat} (h : WithinN l vs k j i N) (hk : k < l.length) (ht : N[j]? = some t) (hj : k < t) : WithinN l (vs.set k (max (vs.getD k 0) (vs.getD t 0 + 1))) k (j + 1) i N := by
  refine ⟨h.down.set_ _, ?_⟩
  rw [getD_set_eq (by rw [h.down.most.len]; exact hk)]
  exact (h.most.more (q := t) hj fun q _ => mem_take_succ ht).congr (fun q hq => getD_set_ne (by omega)) fun q _ => Iff.rfl
theorem WithinN.skip {l : List Ins} {vs : List Int} {k j t : Nat} {i : Ins} {N : List Nat} (h : WithinN l vs k j i N) (ht : N[j]? = some t) (hj : t ≤ k) : WithinN l vs k (j + 1) i N := by
  refine ⟨h.down, h.most.congr (fun _ _ => rfl) fun q hq => ?_⟩
  rw [mem_take_succ ht]
  exact ⟨fun h => h.resolve_right (by omega), .inl⟩
theorem WithinN.done {l : List Ins} {vs : List Int} {k : Nat} {i : Ins} {N : List Nat} (h : WithinN l vs k N.length i N) (hN : ∀ j : Nat, (j : Int) ∈ nextP i k ↔ j ∈ N) (hi : l[k]? = some i) (hnb : Reaches l k → i.op ≠ 19) : Down l vs k := by
  refine ⟨h.down.most.down hi (h.most.congr (fun _ _ => rfl) fun q _ => ?_), fun q i' hq hr hi' => ?_⟩
  · rw [List.take_length]
    exact hN q
  · by_cases e : q = k
    · subst e
      rw [hi] at hi'
      obtain rfl : i = i' := by simpa using hi'
      exact hnb hr
    · exact h.down.noback q i' (by omega) hr hi'
theorem WithinN.bound {l : List Ins} {vs : List Int} {k j : Nat} {i : Ins} {N : List Nat} (h : WithinN l vs k j i N) (hb : ∀ (q j : Nat) (i : Ins), l[q]? = some i → (j : Int) ∈ nextP i q → j < l.length) {q : Nat} (hq : k < q) (hl : q < l.length) : 1 ≤ vs.getD q 0 ∧ vs.getD q 0 ≤ l.length - q :=
  h.down.most.bound hb l.length q (by omega) (by omega) hl
theorem rd_int {w : World} {B n b o : Nat} {vs : List Int} (h : Rd w B 1 (some ⟨b, o, none⟩) n (ints vs)) {k : Nat} (hk : k < n) : w.cell? ⟨b, o + k, none⟩ = some (.int .i64 (vs.getD k 0)) := by
  obtain ⟨b', o', e, _, hc⟩ := h.at_ (by omega)
  injection e with e
  injection e with e1 e2
  subst e1; subst e2
  have hl : vs.length = n := by simpa [ints] using h.len
  exact hc k _ (ints_at (by omega))

/-- What the program's Longest comes to. -/
def CLongestPost (l : List Ins) (w : World) (e : Ending) (w' : World) : Prop :=
  ∃ x b, e = .returned (.tuple #[.int .i64 x, .bool b]) ∧ Below w.heap.size w w' ∧ (if rightP l then LongestIs l x b else x = 0 ∧ b = false)

theorem longest_bad (l : List Ins) (A : Option Addr) (n c : Nat) (w : World) (hr : RdI w w.heap.size A n l) (hok : ∀ i ∈ l, i.Ok) (hp : rightP l = false) :
    Calls Try.prog 28 #[.slice A n c] w (CLongestPost l w) := by
  have HR := Lib.hid hr
  have HK := Lib.hid hok
  have HP := Lib.hid hp
  clear hr hok hp
  go_enter Try.func28, Try.ntmps28
  go_wp2_with fail
  refine (reach_any l A n c _ HR.out HK.out).mono ?_
  rintro e w1 ⟨v, M, rfl, hown, hb, hM⟩
  rw [if_neg (by rw [HP.out]; simp)] at hM
  subst hM
  obtain ⟨A1, c1, rfl, r1⟩ := Rd.of_own hown
  have HB1 := Lib.hid hb
  have hsz1 := hb.size
  clear hb hown r1
  have hmk : (Instr.makeSlice 101 (.int .i64 0) (.int .i64 0)).run Try.prog w1 = .ok (.slice (some ⟨w1.heap.size, 0, none⟩) 0 0) (w1.alloc (.cells #[] 3)) := make_ints w1 0 (by omega)
  go_wp2
  go_loopw [6] (fun t wr => t = .int .i64 (-1) ∧ Below w.heap.size w wr) (fun t _ => 0)
  case atStart => exact ⟨rfl, HB1.out.alloc hsz1 _⟩
  case round =>
    obtain ⟨rfl, hb⟩ := hrel
    go_wp2
    go_ret2
    exact ⟨_, _, rfl, hb, by rw [if_neg (by rw [HP.out]; simp)]; exact ⟨rfl, rfl⟩⟩

set_option maxRecDepth 100000 in
set_option maxHeartbeats 4000000 in
theorem longest_good (l : List Ins) (A : Option Addr) (n c : Nat) (w : World) (hr : RdI w w.heap.size A n l) (hok : ∀ i ∈ l, i.Ok) (hp : rightP l = true) :
    Calls Try.prog 28 #[.slice A n c] w (CLongestPost l w) := by
  obtain ⟨hn0, hn256, _, _⟩ := right_parts hp
  have hl := hr.insLen
  rw [hl] at hn0 hn256
  have HL := Lib.hid hl
  have HR := Lib.hid hr
  have HW := Lib.hid (fun (k j : Nat) (i : Ins) (hi : l[k]? = some i) hj => right_lt hp hok k j i hi hj)
  have HK := Lib.hid hok
  have HP := Lib.hid hp
  clear hr hok hp hl
  go_enter Try.func28, Try.ntmps28
  go_wp2_with fail
  refine (reach_any l A n c _ HR.out HK.out).mono ?_
  rintro e w1 ⟨v, M, rfl, hown, hb, hM⟩
  rw [if_pos HP.out] at hM
  have hMn : M.length = n := hM.len.trans HL.out
  rw [hMn] at hown
  obtain ⟨A1, c1, rfl, r1⟩ := Rd.of_own hown
  obtain ⟨b1, o1, rfl, hbb1⟩ := r1.addr (by omega)
  have R1 := Lib.hid r1
  have HM := Lib.hid hM
  have HMn := Lib.hid hMn
  have HB1 := Lib.hid hb
  have hsz1 := hb.size
  clear hM hMn hb hown r1
  have hmk := make_ints w1 n hn256
  have B0 := Lib.hid (Bk.new w1 3 (ints (List.replicate n 0)).toArray)
  have D0 : Hid (Down l (List.replicate n 0) n) := ⟨by have h := MostFrom.end_ (l := l) (vs := List.replicate n 0) (by simp [HL.out]); rw [HL.out] at h; exact h, fun q i hq _ hi => by have := (List.getElem?_eq_some_iff.1 hi).1; rw [HL.out] at this; omega⟩
  generalize hV : List.replicate n (0 : Int) = V0 at *
  have HV := Lib.hid hV
  clear hV
  go_wp2
  go_loopw [6] (fun t wr => ∃ (d : Nat) (vs : List Int), (d ≤ n ∧ t = .int .i64 ((d : Int) - 1)) ∧ Hid (Down l vs d) ∧ Bk wr w1.heap.size 3 (ints vs).toArray ∧ Below w1.heap.size w1 wr) (fun t _ => (intOf t + 1).toNat)
  case atStart => exact ⟨n, V0, ⟨by omega, rfl⟩, D0, B0.out, (Below.refl _ _).alloc (Nat.le_refl _) _⟩
  case round =>
    obtain ⟨d, vs, ⟨hdn, rfl⟩, HD, hbk, hb⟩ := hrel
    obtain ⟨wo, rfl⟩ : ∃ wo : World, wo = wr := ⟨_, rfl⟩
    have HB := Lib.hid hb
    have HK1 := Lib.hid hbk
    clear hb hbk
    have HBW := Lib.hid (HB1.out.trans (HB.out.mono hsz1))
    rcases d with _ | k
    · have e0 : ((0 : Nat) : Int) - 1 = -1 := by omega
      rw [e0]
      have hlen := HD.out.most.len
      have c0 := bk_int (k := 0) HK1.out (by rw [hlen, HL.out]; exact hn0)
      clear hlen e0
      have hn0' : ((n : Int) == 0) = false := by simp; omega
      generalize hx : vs.getD 0 0 = x at c0
      have HX := Lib.hid hx
      clear hx
      go_wp2
      go_ret2
      exact ⟨_, _, rfl, HBW.out, by rw [if_pos HP.out, ← HX.out]; exact HD.out.done⟩
    · have e0 : ((k + 1 : Nat) : Int) - 1 = (k : Int) := by omega
      rw [e0]
      clear e0
      have hkn : k < n := by omega
      have hkl : k < l.length := by rw [HL.out]; exact hkn
      obtain ⟨i, hi⟩ : ∃ i, l[k]? = some i := ⟨l[k]'hkl, List.getElem?_eq_getElem _⟩
      have HI := Lib.hid hi
      have HKL := Lib.hid hkl
      have HOI := Lib.hid (HK.out i (List.mem_of_getElem? hi))
      obtain ⟨N, hN⟩ := nats_of (L := nextP i k) (fun x hx => (right_next HP.out hi HOI.out.imm.1 hx).imp fun j h => h.1)
      have HN := Lib.hid hN
      have HNm : Hid (∀ j : Nat, (j : Int) ∈ nextP i k ↔ j ∈ N) := fun j => by rw [HN.out]; exact nats_mem j
      have HNl : Hid (N.length ≤ 2) := by have h := nextP_le i k; rw [hN, List.length_map] at h; exact h
      have rI := HR.out.below HBW.out
      obtain ⟨bI, oI, i', hA, hbI, hi', ci0, _, _, _, _⟩ := rI.insAt hkn
      subst hA
      rw [hi] at hi'
      obtain rfl : i = i' := by simpa using hi'
      clear hi hi' hkl hN
      have RI := Lib.hid (rI.more HBW.out.size)
      clear rI
      have cm := rd_bool (R1.out.below HB.out) hkn
      have fk := HK1.out.frozen k
      have cv := bk_int (k := k) HK1.out (by rw [HD.out.most.len, HL.out]; exact hkn)
      generalize vs.getD k 0 = xv at cv
      have hgo : (M.getD k false = true ∧ i.op = 19) ∨ (M.getD k false = false ∧ Hid (Reaches l k → i.op ≠ 19)) ∨ (M.getD k false = true ∧ (i.op == 19) = false ∧ Hid (Reaches l k → i.op ≠ 19)) := by
        by_cases ho : i.op = 19
        · cases hm : M.getD k false
          · refine .inr (.inl ⟨rfl, fun hr => ?_⟩)
            have h1 := (HM.out.iff k).2 hr
            have h2 := getD_some (by rw [HMn.out]; exact hkn) hm
            rw [h1] at h2; simp at h2
          · exact .inl ⟨rfl, ho⟩
        · cases hm : M.getD k false
          · exact .inr (.inl ⟨rfl, fun _ => ho⟩)
          · exact .inr (.inr ⟨rfl, by simpa using ho, fun _ => ho⟩)
      have HI0 : Hid (WithinN l (vs.set k 1) k 0 i N) := WithinN.init HD.out HKL.out
      have HBs : Hid (Below w1.heap.size w1 (wo.setCell ⟨w1.heap.size, k, none⟩ (.int .i64 1))) := HB.out.setCell (p := ⟨w1.heap.size, k, none⟩) (Nat.le_refl _) _
      have HKs : Hid (Bk (wo.setCell ⟨w1.heap.size, k, none⟩ (.int .i64 1)) w1.heap.size 3 (ints (vs.set k 1)).toArray) := by
        have h := HK1.out.set_ k (.int .i64 1)
        rw [ints_arr] at h
        exact h
      have HRs := Lib.hid (HR.out.below (HB1.out.trans (HBs.out.mono hsz1)))
      have HSZ := Lib.hid (HB1.out.trans (HBs.out.mono hsz1)).size
      rcases hgo with ⟨hm, ho⟩ | ⟨hm, HNB⟩ | ⟨hm, ho, HNB⟩
      · have HR1 : Hid (Reaches l k) := (HM.out.iff k).1 (getD_some (by rw [HMn.out]; exact hkn) hm)
        rw [hm] at cm
        have HO := Lib.hid ho
        rw [ho] at ci0
        clear hm ho
        go_wp2
        go_ret2
        exact ⟨_, _, rfl, HBW.out, by rw [if_pos HP.out]; exact .inl ⟨⟨k, i, HR1.out, HI.out, HO.out⟩, rfl, rfl⟩⟩
      all_goals
        rw [hm] at cm
        clear hm
        go_wp2_with fail
        refine (next_any l _ n c _ (HRs.out.more HSZ.out) k hkn (by omega) i HI.out HOI.out.imm.1 (right_imm HP.out HI.out)).mono ?_
        rintro e w4 ⟨v4, rfl, hown4, hb4⟩
        rw [HN.out, List.length_map] at hown4
        obtain ⟨A4, c4, hv4, hc4, r4⟩ := Rd.of_own_cap hown4
        subst hv4
        have HB4 := Lib.hid (HBs.out.trans (hb4.mono HBs.out.size))
        have HK4 := Lib.hid (HKs.out.below hb4 HKs.out.lt)
        have HO4 := Lib.hid (own_base (base' := w1.heap.size + 1) hown4 HKs.out.lt)
        have hsz4 := HB4.out.size
        obtain ⟨m, hm⟩ : ∃ m, N.length = m := ⟨_, rfl⟩
        have hm2 := HNl.out
        rw [hm] at HO4 hm2 ⊢
        have HNm' := Lib.hid hm
        clear hown4 hb4 r4 hc4 cm cv fk ci0 hm
        go_wp2
        go_loopw [40, 8] (fun t _u wr => ∃ (j : Nat) (vs' : List Int), (j ≤ m ∧ t = .int .i64 j) ∧ Hid (WithinN l vs' k j i N) ∧ wr.ownsRow (w1.heap.size + 1) 3 1 (.slice A4 m c4) m (ints (N.map Int.ofNat)) ∧ Bk wr w1.heap.size 3 (ints vs').toArray ∧ Below w1.heap.size w1 wr) (fun t _ _ => m - (intOf t).toNat)
        case atStart => exact ⟨0, vs.set k 1, ⟨by omega, rfl⟩, HI0, HO4.out, HK4.out, HB4.out⟩
        case round =>
          obtain ⟨j, vs', ⟨hjm, rfl⟩, HW1, hown, hbk, hb⟩ := hrel
          obtain ⟨wi, rfl⟩ : ∃ wi : World, wi = wr := ⟨_, rfl⟩
          have HB2 := Lib.hid hb
          have HK2 := Lib.hid hbk
          have HO2 := Lib.hid hown
          clear hb hbk hown
          by_cases hjl : j < m
          · obtain ⟨A5, c5, e5, r5⟩ := Rd.of_own HO2.out
            injection e5 with e5 _ e7
            subst e5
            obtain rfl : c4 = c5 := e7
            obtain ⟨b5, o5, e5, hb5⟩ := r5.addr (by omega)
            subst e5
            obtain ⟨t, ht⟩ : ∃ t, N[j]? = some t := ⟨N[j]'(by rw [HNm'.out]; exact hjl), List.getElem?_eq_getElem _⟩
            have ct := rd_int r5 hjl
            have et : (N.map Int.ofNat).getD j 0 = (t : Int) := by
              rw [List.getD_eq_getElem?_getD, List.getElem?_map, ht]; rfl
            rw [et] at ct
            have htn : t < n := by
              have := HW.out k t i HI.out ((HNm.out t).2 (List.mem_of_getElem? ht))
              rw [HL.out] at this; exact this
            have HT := Lib.hid ht
            clear et r5 ht
            by_cases htk : k < t
            · have eV : vs'.length = n := HW1.out.down.most.len.trans HL.out
              have cj := bk_int (k := t) HK2.out (by rw [eV]; exact htn)
              have ck := bk_int (k := k) HK2.out (by rw [eV]; exact hkn)
              have fk := HK2.out.frozen k
              obtain ⟨hy1, hy2⟩ := HW1.out.bound HW.out htk (by rw [HL.out]; exact htn)
              rw [HL.out] at hy2
              have HWm := Lib.hid (HW1.out.more HKL.out HT.out htk)
              have HS : ∀ x : Int, Hid (Bk (wi.setCell ⟨w1.heap.size, k, none⟩ (.int .i64 x)) w1.heap.size 3 (ints (vs'.set k x)).toArray) := fun x => by
                have h := HK2.out.set_ k (.int .i64 x)
                rw [ints_arr] at h
                exact h
              have HOs : ∀ x : Int, Hid ((wi.setCell ⟨w1.heap.size, k, none⟩ (.int .i64 x)).ownsRow (w1.heap.size + 1) 3 1 (.slice (some ⟨b5, o5, none⟩) m c4) m (ints (N.map Int.ofNat))) := fun x => ownsRow_setCell_below HO2.out (a := ⟨w1.heap.size, k, none⟩) (by simp) (.int .i64 x)
              generalize vs'.getD t 0 = y at *
              generalize vs'.getD k 0 = x at *
              clear eV
              by_cases hgt : x < y + 1
              · have HWm' : Hid (WithinN l (vs'.set k (y + 1)) k (j + 1) i N) := by have h := HWm.out; rw [show max x (y + 1) = y + 1 by omega] at h; exact h
                go_wp2
                go_still_tail 13, (by kernel_rfl)
                go_wp2
                go_roundw
                case rel => exact ⟨j + 1, vs'.set k (y + 1), ⟨by omega, by go_num⟩, HWm', (HOs _).out.drew, HS _, (HB2.out.setCell (p := ⟨w1.heap.size, k, none⟩) (Nat.le_refl _) _).drew⟩
                case measure => simp [intOf]; omega
              · have HWm' : Hid (WithinN l (vs'.set k (x)) k (j + 1) i N) := by have h := HWm.out; rw [show max x (y + 1) = x by omega] at h; exact h
                go_wp2
                go_still_tail 13, (by kernel_rfl)
                go_wp2
                go_roundw
                case rel => exact ⟨j + 1, vs'.set k (x), ⟨by omega, by go_num⟩, HWm', (HOs _).out.drew, HS _, (HB2.out.setCell (p := ⟨w1.heap.size, k, none⟩) (Nat.le_refl _) _).drew⟩
                case measure => simp [intOf]; omega
            · have hnx := Lib.hid (HW1.out.skip HT.out (by omega))
              have htk' : ¬ ((k : Int) < (t : Int)) := by omega
              go_wp2
              go_roundw
              case rel => exact ⟨j + 1, vs', ⟨by omega, by go_num⟩, hnx, HO2.out, HK2.out, HB2.out⟩
              case measure => simp [intOf]; omega
          · obtain rfl : m = j := by omega
            have HDn := Lib.hid (WithinN.done (by rw [HNm'.out]; exact HW1.out) HNm.out HI.out HNB.out)
            go_wp2
            go_roundw
            case rel => exact ⟨k, vs', ⟨by omega, rfl⟩, HDn, HK2.out, HB2.out⟩
            case measure => simp [intOf]

theorem longest_any (l : List Ins) (A : Option Addr) (n c : Nat) (w : World) (hr : RdI w w.heap.size A n l) (hok : ∀ i ∈ l, i.Ok) :
    Calls Try.prog 28 #[.slice A n c] w (CLongestPost l w) := by
  cases hp : rightP l
  · exact longest_bad l A n c w hr hok hp
  · exact longest_good l A n c w hr hok hp
end Go.Proofs.Ytddaeaimimdonaa
