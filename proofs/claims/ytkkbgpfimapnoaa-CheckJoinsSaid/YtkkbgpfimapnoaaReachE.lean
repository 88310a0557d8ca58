/-
  Chapter 5: contract of tumblerref05.Reach.
-/
import Derived.Test.YtkkbgpfimapnoaaReachC
import Derived.Test.YtkkbgpfimapnoaaReachD
import Derived.Test.YtkkbgpfimapnoaaReachF
namespace Go.Proofs.Ytkkbgpfimapnoaa
open Go.RowKit
set_option linter.unusedVariables false

theorem bk_bool {w : World} {g : Nat} {t : TypeId} {M : List Bool} {k : Nat} (h : Bk w g t (bools M).toArray) (hk : k < M.length) : w.cell? ⟨g, k, none⟩ = some (.bool (M.getD k false)) := by
  rw [h.cell k, List.getElem?_toArray]; exact bools_at hk
theorem set_self {M : List Bool} {j : Nat} {b : Bool} (hj : j < M.length) (h : M.getD j false = b) : M.set j b = M := by
  apply List.ext_getElem?
  intro q
  rw [List.getElem?_set]
  split
  · rename_i e
    subst e
    rw [List.getElem?_eq_getElem hj]
    rw [List.getD_eq_getElem?_getD, List.getElem?_eq_getElem hj] at h
    simp at h
    rw [h]
  · rfl
theorem getD_some {M : List Bool} {j : Nat} {b : Bool} (hj : j < M.length) (h : M.getD j false = b) : M[j]? = some b := by
  rw [List.getD_eq_getElem?_getD, List.getElem?_eq_getElem hj] at h
  rw [List.getElem?_eq_getElem hj]
  simp at h
  rw [h]
theorem Round.next {l : List Ins} {M0 M : List Bool} {k j : Nat} {i : Ins} (h : Round l M0 M k j) (hi : l[k]? = some i) (hj : j < l.length) {x y z : Bool} (hx : M.getD j false = x) (hy : M.getD k false = y) (hz : decide ((j : Int) ∈ nextP i k) = z) :
    Round l M0 (M.set j (x || y && z)) k (j + 1) := by
  have hk : k < l.length := (List.getElem?_eq_some_iff.1 hi).1
  rw [← h.len] at hj hk
  have ex := getD_some hj hx
  have ey := getD_some hk hy
  cases x
  · cases y
    · show Round l M0 (M.set j false) k (j + 1)
      rw [set_self hj hx]
      exact h.pass hi (.inr (.inl (by rw [ey]; simp)))
    · cases z
      · show Round l M0 (M.set j false) k (j + 1)
        rw [set_self hj hx]
        exact h.pass hi (.inr (.inr (by simpa using hz)))
      · exact h.mark hi ey ex (by simpa using hz)
  · show Round l M0 (M.set j true) k (j + 1)
    rw [set_self hj hx]
    exact h.pass hi (.inl ex)

/-- What the document's Reach comes to. -/
def RReachPost (l : List Ins) (w : World) (e : Ending) (w' : World) : Prop :=
  ∃ v M, e = .returned v ∧ w'.ownsRow w.heap.size 4 1 v M.length (bools M) ∧ Below w.heap.size w w' ∧ Marks l M

set_option maxHeartbeats 4000000 in
theorem rreach_any (l : List Ins) (A : Option Addr) (n c : Nat) (w : World) (hr : RdI w w.heap.size A n l) (hok : ∀ i ∈ l, i.Ok) (hp : rightP l = true) :
    Calls Try.prog 39 #[.slice A n c] w (RReachPost l w) := by
  obtain ⟨hn0, hn256, _, _⟩ := right_parts hp
  have hl := hr.insLen
  rw [hl] at hn0 hn256
  have HL := Lib.hid hl
  have HR := Lib.hid hr
  have HW := Lib.hid (fun (k : Nat) (i : Ins) (hi : l[k]? = some i) (j : Nat) hj => right_lt hp hok k j i hi hj)
  clear hr hok hp hl
  have hmk := make_bools w n hn256
  have B0 := Lib.hid (Bk.new w 4 (bools (List.replicate n false)).toArray)
  have G0 := Lib.hid (Rounds.init (l := l) (by rw [HL.out]; exact hn0))
  rw [HL.out] at G0
  have f0 := B0.out.frozen 0
  have c0 := bk_bool (k := 0) B0.out (by simpa using hn0)
  generalize hM0 : List.replicate n false = M0 at *
  have HM0 := Lib.hid hM0
  clear hM0
  go_enter Try.func39, Try.ntmps39
  go_wp2
  go_loopw [4] (fun t wr => ∃ (r : Nat) (M : List Bool), (r ≤ n ∧ t = .int .i64 r) ∧ Hid (Rounds l M r) ∧ Bk wr w.heap.size 4 (bools M).toArray ∧ Below w.heap.size w wr) (fun t _ => n - (intOf t).toNat)
  case atStart =>
    refine ⟨0, M0.set 0 true, ⟨by omega, rfl⟩, ?_, ?_, (Below.refl _ _).alloc (Nat.le_refl _) _⟩
    · exact G0
    · rw [← bools_set]; exact Bk.new w _ _
  case round =>
    obtain ⟨r, M, ⟨hrn, rfl⟩, HG, hbk, hb⟩ := hrel
    obtain ⟨wo, rfl⟩ : ∃ wo : World, wo = wr := ⟨_, rfl⟩
    have HB := Lib.hid hb
    have HK := Lib.hid hbk
    clear hb hbk
    by_cases hlt : r < n
    · go_wp2
      go_loopw [5] (fun t wr => ∃ (k : Nat) (M1 : List Bool), (k ≤ n ∧ t = .int .i64 k) ∧ Hid (Round l M M1 k 0) ∧ Bk wr w.heap.size 4 (bools M1).toArray ∧ Below w.heap.size w wr) (fun t _ => n - (intOf t).toNat)
      case atStart => exact ⟨0, M, ⟨by omega, rfl⟩, Round.init HG.out, HK.out, HB.out⟩
      case round =>
        obtain ⟨k, M1, ⟨hkn, rfl⟩, HG1, hbk, hb⟩ := hrel
        obtain ⟨wm, rfl⟩ : ∃ wm : World, wm = wr := ⟨_, rfl⟩
        have HB1 := Lib.hid hb
        have HK1 := Lib.hid hbk
        clear hb hbk
        by_cases hlk : k < n
        · obtain ⟨i, hi⟩ : ∃ i, l[k]? = some i := ⟨l[k]'(by rw [HL.out]; exact hlk), List.getElem?_eq_getElem _⟩
          have HI := Lib.hid hi
          clear hi
          go_wp2
          go_loopw [6] (fun t wr => ∃ (j : Nat) (M2 : List Bool), (j ≤ n ∧ t = .int .i64 j) ∧ Hid (Round l M M2 k j) ∧ Bk wr w.heap.size 4 (bools M2).toArray ∧ Below w.heap.size w wr) (fun t _ => n - (intOf t).toNat)
          case atStart => exact ⟨0, M1, ⟨by omega, rfl⟩, HG1, HK1.out, HB1.out⟩
          case round =>
            obtain ⟨j, M2, ⟨hjn, rfl⟩, HG2, hbk, hb⟩ := hrel
            obtain ⟨wi, rfl⟩ : ∃ wi : World, wi = wr := ⟨_, rfl⟩
            have HB2 := Lib.hid hb
            have HK2 := Lib.hid hbk
            clear hb hbk
            by_cases hlj : j < n
            · have eM : M2.length = n := HG2.out.len.trans HL.out
              have cj := bk_bool (k := j) HK2.out (by rw [eM]; exact hlj)
              have ck := bk_bool (k := k) HK2.out (by rw [eM]; exact hlk)
              have fj := HK2.out.frozen j
              clear eM
              have HR2 := Lib.hid ((HR.out.below HB2.out).more HB2.out.size)
              have HN := fun x y z hx hy hz => Lib.hid (HG2.out.next HI.out (by rw [HL.out]; exact hlj) (x := x) (y := y) (z := z) hx hy hz)
              have HS : ∀ b : Bool, Hid (Bk (wi.setCell ⟨w.heap.size, j, none⟩ (.bool b)) w.heap.size 4 (bools (M2.set j b)).toArray) := fun b => by
                have h := HK2.out.set_ j (.bool b)
                rw [bools_arr] at h
                exact h
              have HT : ∀ b : Bool, Hid (Below w.heap.size w (wi.setCell ⟨w.heap.size, j, none⟩ (.bool b))) := fun b => HB2.out.setCell (p := ⟨w.heap.size, j, none⟩) (Nat.le_refl _) _
              cases hx : M2.getD j false
              · cases hy : M2.getD k false
                · have HN' := HN _ _ _ hx hy rfl
                  rw [hx] at cj
                  rw [hy] at ck
                  clear hx hy HN
                  go_wp2
                  go_roundw
                  case rel => exact ⟨j + 1, M2.set j false, ⟨by omega, by go_num⟩, HN', HS false, HT false⟩
                  case measure => simp [intOf]; omega
                · cases hz : decide ((j : Int) ∈ nextP i k)
                  · have HN' := HN _ _ _ hx hy hz
                    rw [hx] at cj
                    rw [hy] at ck
                    have HZ := Lib.hid hz
                    clear hx hy hz HN
                    go_wp2_with (go_at_call 50; refine (leads_any l A n c _ HR2.out k j hlk hlj i HI.out).mono ?_; rintro e w1 ⟨rfl, rfl⟩; rw [HZ.out])
                    go_roundw
                    case rel => exact ⟨j + 1, M2.set j false, ⟨by omega, by go_num⟩, HN', HS false, HT false⟩
                    case measure => simp [intOf]; omega
                  · have HN' := HN _ _ _ hx hy hz
                    rw [hx] at cj
                    rw [hy] at ck
                    have HZ := Lib.hid hz
                    clear hx hy hz HN
                    go_wp2_with (go_at_call 50; refine (leads_any l A n c _ HR2.out k j hlk hlj i HI.out).mono ?_; rintro e w1 ⟨rfl, rfl⟩; rw [HZ.out])
                    go_roundw
                    case rel => exact ⟨j + 1, M2.set j true, ⟨by omega, by go_num⟩, HN', HS true, HT true⟩
                    case measure => simp [intOf]; omega
              · have HN' := HN _ _ _ hx rfl rfl
                rw [hx] at cj
                clear hx HN
                go_wp2
                go_roundw
                case rel => exact ⟨j + 1, M2.set j true, ⟨by omega, by go_num⟩, HN', HS true, HT true⟩
                case measure => simp [intOf]; omega
            · obtain rfl : n = j := by omega
              have HRow := Lib.hid (Round.row HW.out (by rw [HL.out]; exact HG2.out))
              go_wp2
              go_roundw
              case rel => exact ⟨k + 1, M2, ⟨by omega, by go_num⟩, HRow, HK2.out, HB2.out⟩
              case measure => simp [intOf]; omega
        · obtain rfl : n = k := by omega
          have HF := Lib.hid (Round.finish HG.out (by rw [HL.out]; exact HG1.out))
          go_wp2
          go_roundw
          case rel => exact ⟨r + 1, M1, ⟨by omega, by go_num⟩, HF, HK1.out, HB1.out⟩
          case measure => simp [intOf]; omega
    · obtain rfl : n = r := by omega
      have HD := Lib.hid (Rounds.done (by rw [HL.out]; exact HG.out))
      go_wp2
      go_ret
      have e : M.length = n := HG.out.len.trans HL.out
      have o := HK.out.own (base := w.heap.size) (Nat.le_refl _) (by rw [e]; simp [maxLen]; omega)
      rw [e] at o
      exact ⟨_, M, rfl, by rw [e]; exact o, HB.out, HD.out⟩
end Go.Proofs.Ytkkbgpfimapnoaa
