/-
  Chapter 25: the texts of a list's numbers: contract of report.each[uint64] at report.num.
-/
import Derived.Test.YthklmcpjlpaklaaDoorRepB
namespace Go.Proofs.YthklmcpjlpaklaaDoor
open Go.RowKit
set_option linter.unusedVariables false

/-- A slice of uint64 that is read. -/
abbrev RdU (w : World) (B : Nat) (A : Option Addr) (n : Nat) (l : List Int) : Prop := Rd w B 1 A n (l.map (Value.int .u64))
theorem Rd.u64Len {w : World} {B n : Nat} {A : Option Addr} {l : List Int} (h : RdU w B A n l) : l.length = n := by
  have := h.len; rw [List.length_map] at this; omega
def decV (u : Int) : Value := .string (str (dec u))
def EachPost (l : List Int) (w : World) (e : Ending) (w' : World) : Prop :=
  ∃ v, e = .returned v ∧ w'.ownsRow w.heap.size 9 1 v l.length (l.map decV) ∧ Below w.heap.size w w'

set_option maxRecDepth 100000 in
set_option maxHeartbeats 4000000 in
theorem each_any (l : List Int) (A : Option Addr) (n c : Nat) (w : World) (hr : RdU w w.heap.size A n l) (hok : ∀ x ∈ l, 0 ≤ x ∧ x ≤ 18446744073709551615) (h48 : n ≤ 1000000) (htab : PowTab w) :
    Calls Tryd.prog 26 #[.slice A n c, .func (.func 22) #[] #[]] w (EachPost l w) := by
  obtain ⟨i0, hi0, hy0, hy1, hy2⟩ := info_parts info_str
  have HR := Lib.hid hr
  have HLl := Lib.hid hr.u64Len
  have HK := Lib.hid hok
  have HT := Lib.hid htab
  clear hr hok htab
  go_enter Tryd.func26, Tryd.ntmps26
  go_wp2
  go_loopw [5, 7, 10] (fun out _x i wr => ∃ k : Nat, (k ≤ n ∧ i = .int .i64 k) ∧ wr.ownsRow w.heap.size 9 1 out k ((l.take k).map decV) ∧ Below w.heap.size w wr) (fun _ _ i _ => n - (intOf i).toNat)
  case atStart => exact ⟨0, ⟨by omega, rfl⟩, World.ownsRow_nil _ _ _ _, Below.refl _ _⟩
  case round =>
    obtain ⟨k, ⟨hk, rfl⟩, hown, hb⟩ := hrel
    have HB := Lib.hid hb
    have HO := Lib.hid hown
    have hsz := hb.size
    have HTr : Hid (PowTab wr) := HT.out.below hb
    obtain ⟨Ao, co, rfl, hco, _⟩ := Rd.of_own_cap hown
    clear hown hb
    by_cases hlt : k < n
    · obtain ⟨x, hx⟩ : ∃ x, l[k]? = some x := ⟨_, List.getElem?_eq_getElem (by rw [HLl.out]; exact hlt)⟩
      obtain ⟨b, o, rfl, hbB, hcell⟩ := (HR.out.below HB.out).at_ (by omega)
      have q0 := hcell k _ (by rw [List.getElem?_map, hx]; rfl)
      have HTk : Hid ((l.take (k + 1)).map decV = (l.take k).map decV ++ [decV x]) := by show _ = _; rw [List.take_add_one, hx, List.map_append]; rfl
      obtain ⟨hx0, hx1⟩ := HK.out x (List.mem_of_getElem? hx)
      clear hcell hx
      obtain ⟨D, hD⟩ : ∃ D, str (dec x) = D := ⟨_, rfl⟩
      have HD := Lib.hid hD
      have HDv : Hid (decV x = .string D) := by show _ = _; rw [decV, hD]
      clear hD
      go_wp2_with fail
      refine (num_any x hx0 hx1 _ HTr.out).mono ?_
      rintro e w2 ⟨rfl, hb2⟩
      rw [HD.out]
      have HB2 := Lib.hid (HB.out.trans (hb2.mono hsz))
      have HO2 := Lib.hid (own_below HO.out hb2)
      have hz2 := HB2.out.size
      have RN : Hid (Rd (w2.alloc (.cells #[.string D] 9)) (w2.heap.size + 1) 1 (some ⟨w2.heap.size, 0, none⟩) 1 [.string D]) := Rd.newAt w2 _ _ _ rfl (size := 1) (m := 1) rfl (by simp [maxLen])
      clear hb2
      go_wp2_with (at_builtin; refine wpList_app _ (by rfl) (.tmp 14) (.tmp 18) 22 (by rfl) w.heap.size 9 i0 _ 1 16 Tryd.underlying22 hi0 hy0 hy1 hy2 rfl (by decide) (.slice Ao k co) k ((l.take k).map decV) (by rfl) (HO2.out.alloc _) (w2.heap.size + 1) (some ⟨w2.heap.size, 0, none⟩) 1 1 [.string D] (by rfl) RN.out (by intro u hu; simp at hu; subst hu; rfl) (by unfold maxLen; omega) (by omega) (by rw [World.size_alloc]; omega) ?_)
      intro v5 w5 hown5 hg5 _
      have HO5 : Hid (w5.ownsRow w.heap.size 9 1 v5 (k + 1) ((l.take (k + 1)).map decV)) := by
        show World.ownsRow _ _ _ _ _ _ _
        rw [HTk.out, HDv.out]
        first | exact hown5 | (rw [List.map_take]; exact hown5)
      have HB5 := Lib.hid (below_own (HB2.out.alloc hz2 _) (HO2.out.alloc _) hg5 (Nat.le_refl _) (by rw [World.size_alloc]; omega))
      clear hown5 hg5 RN
      go_wp2
      go_roundw
      case rel => exact ⟨k + 1, ⟨by omega, by go_num⟩, HO5.out, HB5.out⟩
      case measure => simp [intOf]; omega
    · obtain rfl : n = k := by omega
      have HE : Hid (wr.ownsRow w.heap.size 9 1 (.slice Ao n co) l.length (l.map decV)) := by
        have h := HO.out
        rw [List.take_of_length_le (by rw [HLl.out]; exact Nat.le_refl _)] at h
        show World.ownsRow _ _ _ _ _ _ _
        rw [HLl.out]; exact h
      go_wp2
      go_ret
      exact ⟨_, rfl, HE.out, HB.out⟩
end Go.Proofs.YthklmcpjlpaklaaDoor
