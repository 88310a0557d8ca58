/-
  Chapter 5: the walk of CheckWalks.
-/
import Derived.Test.YtkkbgpfimapnoaaLaw5A
namespace Go.Proofs.Ytkkbgpfimapnoaa
open Go.RowKit
set_option linter.unusedVariables false

/-- On a way: place k, behind q instructions. -/
structure OnWay (l : List Ins) (x : Int) (b : Bool) (k q : Nat) : Prop where
  reach : Reaches l k
  left : b = true → ∃ vs, ¬ GoesBack l ∧ MostFrom l vs 0 ∧ x = vs.getD 0 0 ∧ (q : Int) + vs.getD k 0 ≤ x
theorem OnWay.start {l : List Ins} {x : Int} {b : Bool} (h : LongestIs l x b) : OnWay l x b 0 0 := by
  refine ⟨.start, fun hb => ?_⟩
  rcases h with ⟨_, _, e⟩ | ⟨hg, _, vs, hv, e⟩
  · rw [e] at hb; simp at hb
  · exact ⟨vs, hg, hv, e, by rw [e]; omega⟩
theorem next_fwd {l : List Ins} (h : rightP l = true) {k j : Nat} {i : Ins} (hi : l[k]? = some i) (hne : i.op ≠ 19) (hj : (j : Int) ∈ nextP i k) : k < j := by
  obtain ⟨hn, h256, hall, _⟩ := right_parts h
  have hk : k < l.length := (List.getElem?_eq_some_iff.1 hi).1
  have ho := hall k hk
  rw [oneAt, hi] at ho
  obtain ⟨hp, h1, h2⟩ := oneE_zero ho
  unfold nextP at hj
  split at hj
  · simp at hj
  · split at hj
    · rename_i e
      simp at hj
      have := h1 (.inl e)
      omega
    · split at hj
      · rename_i e
        simp at hj
        rcases hj with hj | hj
        · omega
        · rcases e with e | e
          · have := h1 (.inr e); omega
          · exact absurd e hne
      · simp at hj
        omega
theorem OnWay.step {l : List Ins} {x : Int} {b : Bool} {k q j : Nat} {i : Ins} (h : OnWay l x b k q) (hp : rightP l = true) (hi : l[k]? = some i) (hj : (j : Int) ∈ nextP i k) : OnWay l x b j (q + 1) := by
  refine ⟨.step h.reach hi hj, fun hb => ?_⟩
  obtain ⟨vs, hg, hv, e, hle⟩ := h.left hb
  refine ⟨vs, hg, hv, e, ?_⟩
  have hne : i.op ≠ 19 := fun ho => hg ⟨k, i, h.reach, hi, ho⟩
  have := (hv.most k i (by omega) hi).ge j (next_fwd hp hi hne hj) hj
  omega
theorem OnWay.lt {l : List Ins} {x : Int} {k q : Nat} {i : Ins} (h : OnWay l x true k q) (hi : l[k]? = some i) : ¬ x ≤ (q : Int) := by
  obtain ⟨vs, hg, hv, e, hle⟩ := h.left rfl
  have := (hv.most k i (by omega) hi).one
  omega
/-- The next place, and that it is one. -/
theorem OnWay.next {l : List Ins} {x : Int} {b : Bool} {k q j : Nat} {i : Ins} (h : OnWay l x b k q) (hp : rightP l = true) (hok : ∀ i ∈ l, i.Ok) (hi : l[k]? = some i) (hj : (j : Int) ∈ nextP i k) : j < l.length ∧ OnWay l x b j (q + 1) :=
  ⟨right_lt hp hok k j i hi hj, h.step hp hi hj⟩

set_option maxRecDepth 100000 in
set_option maxHeartbeats 4000000 in
theorem walks_walk (l : List Ins) (A : Option Addr) (n c : Nat) (ws : List Bool) (A' : Option Addr) (m c' : Nat) (w : World) (hr : RdI w w.heap.size A n l) (hok : ∀ i ∈ l, i.Ok) (hc : n ≤ c) (hrw : Rd w w.heap.size 1 A' m (bools ws)) (hc' : m ≤ c') :
    Calls Try.prog 10 #[.slice A n c, .slice A' m c'] w fun e w' => e = .returned (.bool true) ∧ Below w.heap.size w w' := by
  have h63 := hr.le
  have h63' := hrw.le
  unfold maxLen at h63 h63'
  have HL := Lib.hid hr.insLen
  have HR := Lib.hid hr
  have HRW := Lib.hid hrw
  have HK := Lib.hid hok
  clear hr hok hrw
  go_enter Try.func10, Try.ntmps10
  go_wp2_with fail
  refine (alive5_any _).mono ?_
  rintro e w1 ⟨rfl, hb1⟩
  have HB1 := Lib.hid hb1
  clear hb1
  by_cases h40 : 40 < n
  · go_wp2
    go_ret
    exact ⟨rfl, HB1.out⟩
  by_cases h300 : 300 < m
  · go_wp2
    go_ret
    exact ⟨rfl, HB1.out⟩
  go_wp2_with fail
  refine (right_any l A n c _ ((HR.out.below HB1.out).more HB1.out.size) HK.out).mono ?_
  rintro e w2 ⟨rfl, hb2⟩
  have HB2 := Lib.hid (HB1.out.trans (hb2.mono HB1.out.size))
  clear hb2
  cases hp : rightP l
  · go_wp2
    go_ret
    exact ⟨rfl, HB2.out⟩
  have HP := Lib.hid hp
  clear hp
  go_wp2_with fail
  refine (reach_any l A n c _ ((HR.out.below HB2.out).more HB2.out.size) HK.out).mono ?_
  rintro e w3 ⟨v, M, rfl, hown, hb3, hM⟩
  rw [if_pos HP.out] at hM
  have hMn : M.length = n := hM.len.trans HL.out
  rw [hMn] at hown
  obtain ⟨A3, c3, rfl, r3⟩ := Rd.of_own hown
  have hn0 : 0 < n := by rw [← HL.out]; exact (right_parts HP.out).1
  obtain ⟨b3, o3, rfl, hbb3⟩ := r3.addr hn0
  have HB3 := Lib.hid (HB2.out.trans (hb3.mono HB2.out.size))
  have R3 := Lib.hid r3
  have HM := Lib.hid hM
  have HMn := Lib.hid hMn
  clear hb3 hown r3 hM hMn
  go_wp2_with fail
  refine (longest_any l A n c _ ((HR.out.below HB3.out).more HB3.out.size) HK.out).mono ?_
  rintro e w4 ⟨x, b, rfl, hb4, hl⟩
  rw [if_pos HP.out] at hl
  have HB4 := Lib.hid (HB3.out.trans (hb4.mono HB3.out.size))
  have R4 := Lib.hid ((R3.out.below hb4).more hb4.size)
  have HO := Lib.hid (OnWay.start hl)
  have hsz4 := HB4.out.size
  clear hb4 hl
  go_wp2
  go_loopw [36, 8, 9, 10, 11] (fun t kk _u1 _u2 _u3 wr => ∃ q k : Nat, (q ≤ m ∧ t = .int .i64 q ∧ kk = .int .i64 k) ∧ (k < n ∧ Hid (OnWay l x b k q)) ∧ Below w4.heap.size w4 wr) (fun t _ _ _ _ _ => m - (intOf t).toNat)
  case atStart => exact ⟨0, 0, ⟨by omega, rfl, rfl⟩, ⟨hn0, HO.out⟩, Below.refl _ _⟩
  case round =>
    obtain ⟨q, k, ⟨hq, rfl, rfl⟩, ⟨hkn, HW⟩, hb⟩ := hrel
    have HB := Lib.hid hb
    have hszr := hb.size
    have HBW := Lib.hid (HB4.out.trans (hb.mono hsz4))
    clear hb
    by_cases hlt : q < m
    · obtain ⟨b5, o5, e5, hbb5⟩ := (HRW.out.below HBW.out).addr (by omega)
      subst e5
      have cj := rd_bool (HRW.out.below HBW.out) hlt
      have cm := rd_bool (R4.out.below HB.out) hkn
      have hmt : M.getD k false = true := by
        rw [List.getD_eq_getElem?_getD, (HM.out.iff k).2 HW.out.reach]; rfl
      rw [hmt] at cm
      clear hmt
      generalize ws.getD q false = jump at cj
      obtain ⟨bI, oI, i, hA, hbI, hi, ci0, ci1, ci2, ci3, ci4⟩ := (HR.out.below HBW.out).insAt hkn
      subst hA
      have HI := Lib.hid hi
      have HOI := Lib.hid (HK.out i (List.mem_of_getElem? hi))
      have HIm := Lib.hid (right_imm HP.out hi)
      have himm := HOI.out.imm.1
      have HN := Lib.hid (fun j hj => HW.out.next (j := j) HP.out HK.out HI.out hj)
      have hbx : (b = false) ∨ (b = true ∧ ¬ x ≤ (q : Int)) := by
        cases hb : b
        · exact .inl rfl
        · subst hb; exact .inr ⟨rfl, HW.out.lt HI.out⟩
      clear hi
      obtain ⟨op, a, bb, cc, im⟩ := i
      simp only at ci0 ci1 ci2 ci3 ci4 himm
      have hsplit : op = 20 ∨ op = 21 ∨ op = 17 ∨ op = 18 ∨ op = 19 ∨ (((op == 20) = false ∧ (op == 21) = false ∧ (op == 17) = false ∧ (op == 18) = false ∧ (op == 19) = false) ∧ Hid (nextP ⟨op, a, bb, cc, im⟩ k = [(k : Int) + 1])) := by
        by_cases h1 : op = 20
        · exact .inl h1
        by_cases h2 : op = 21
        · exact .inr (.inl h2)
        by_cases h3 : op = 17
        · exact .inr (.inr (.inl h3))
        by_cases h4 : op = 18
        · exact .inr (.inr (.inr (.inl h4)))
        by_cases h5 : op = 19
        · exact .inr (.inr (.inr (.inr (.inl h5))))
        refine .inr (.inr (.inr (.inr (.inr ⟨by simp [h1, h2, h3, h4, h5], ?_⟩))))
        show _ = _
        simp [h1, h2, h3, h4, h5, endsB, nextP]
      rcases hsplit with rfl | rfl | rfl | rfl | rfl | ⟨⟨g1, g2, g3, g4, g5⟩, g6⟩
      · rcases hbx with rfl | ⟨rfl, hxq⟩
        all_goals
          go_wp2
          go_ret
          exact ⟨rfl, HBW.out.alloc HBW.out.size _⟩
      · rcases hbx with rfl | ⟨rfl, hxq⟩
        all_goals
          go_wp2
          go_ret
          exact ⟨rfl, HBW.out.alloc HBW.out.size _⟩
      · obtain ⟨p, rfl⟩ := Int.eq_ofNat_of_zero_le himm
        have him : (p : Int) ≤ 9223372036854775807 := HIm.out (by simp)
        have hj := HN.out (p) (by simp [nextP, endsB])
        have HJ := Lib.hid hj.2
        have hjn : p < n := by rw [← HL.out]; exact hj.1
        clear hj
        rcases hbx with rfl | ⟨rfl, hxq⟩
        all_goals
          go_wp2
          go_roundw
          case rel => exact ⟨q + 1, p, ⟨by omega, by go_num, rfl⟩, ⟨hjn, HJ.out⟩, HB.out.alloc hszr _⟩
          case measure => simp [intOf]; omega
      · cases jump
        · have hj := HN.out (k + 1) (by simp [nextP, endsB])
          have HJ := Lib.hid hj.2
          have hjn : k + 1 < n := by rw [← HL.out]; exact hj.1
          clear hj
          rcases hbx with rfl | ⟨rfl, hxq⟩
          all_goals
            go_wp2
            go_roundw
            case rel => exact ⟨q + 1, k + 1, ⟨by omega, by go_num, by go_num⟩, ⟨hjn, HJ.out⟩, HB.out.alloc hszr _⟩
            case measure => simp [intOf]; omega
        · obtain ⟨p, rfl⟩ := Int.eq_ofNat_of_zero_le himm
          have him : (p : Int) ≤ 9223372036854775807 := HIm.out (by simp)
          have hj := HN.out (p) (by simp [nextP, endsB])
          have HJ := Lib.hid hj.2
          have hjn : p < n := by rw [← HL.out]; exact hj.1
          clear hj
          rcases hbx with rfl | ⟨rfl, hxq⟩
          all_goals
            go_wp2
            go_roundw
            case rel => exact ⟨q + 1, p, ⟨by omega, by go_num, rfl⟩, ⟨hjn, HJ.out⟩, HB.out.alloc hszr _⟩
            case measure => simp [intOf]; omega
      · cases jump
        · have hj := HN.out (k + 1) (by simp [nextP, endsB])
          have HJ := Lib.hid hj.2
          have hjn : k + 1 < n := by rw [← HL.out]; exact hj.1
          clear hj
          rcases hbx with rfl | ⟨rfl, hxq⟩
          all_goals
            go_wp2
            go_roundw
            case rel => exact ⟨q + 1, k + 1, ⟨by omega, by go_num, by go_num⟩, ⟨hjn, HJ.out⟩, HB.out.alloc hszr _⟩
            case measure => simp [intOf]; omega
        · obtain ⟨p, rfl⟩ := Int.eq_ofNat_of_zero_le himm
          have him : (p : Int) ≤ 9223372036854775807 := HIm.out (by simp)
          have hj := HN.out (p) (by simp [nextP, endsB])
          have HJ := Lib.hid hj.2
          have hjn : p < n := by rw [← HL.out]; exact hj.1
          clear hj
          rcases hbx with rfl | ⟨rfl, hxq⟩
          all_goals
            go_wp2
            go_roundw
            case rel => exact ⟨q + 1, p, ⟨by omega, by go_num, rfl⟩, ⟨hjn, HJ.out⟩, HB.out.alloc hszr _⟩
            case measure => simp [intOf]; omega
      · have hj := HN.out (k + 1) (by rw [g6.out]; simp)
        have HJ := Lib.hid hj.2
        have hjn : k + 1 < n := by rw [← HL.out]; exact hj.1
        clear hj
        rcases hbx with rfl | ⟨rfl, hxq⟩
        all_goals
          go_wp2
          go_roundw
          case rel => exact ⟨q + 1, k + 1, ⟨by omega, by go_num, by go_num⟩, ⟨hjn, HJ.out⟩, HB.out.alloc hszr _⟩
          case measure => simp [intOf]; omega
    · obtain rfl : m = q := by omega
      go_wp2
      go_ret
      exact ⟨rfl, HBW.out⟩
end Go.Proofs.Ytkkbgpfimapnoaa
