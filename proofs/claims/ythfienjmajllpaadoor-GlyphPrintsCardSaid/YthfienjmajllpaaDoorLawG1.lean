/-
  Chapter 2: the law GlyphPrints: the walk.
-/
import Derived.Test.YthfienjmajllpaaDoorGlyJ
import Derived.Test.YthfienjmajllpaaDoorGlyO
import Derived.Test.YthfienjmajllpaaDoorGlyR
namespace Go.Proofs.YthfienjmajllpaaDoor
open Go.RowKit
set_option linter.unusedVariables false

theorem printGo_len (B : Nat) (l : List Tok) (fr : Bool) (h : ∀ t ∈ l, (tokText t).length ≤ B) : (printGo l fr).length ≤ l.length * (B + 1) := by
  induction l generalizing fr with
  | nil => simp [printGo]
  | cons t r ih =>
    have hr := fun fr => ih fr (fun x hx => h x (List.mem_cons_of_mem _ hx))
    have ht := h t (by simp)
    rw [printGo, List.length_cons, Nat.add_mul]
    split
    · have := hr true; rw [List.length_cons]; omega
    · split
      · have := hr fr; omega
      · have := hr false
        rw [List.length_append, List.length_append]
        have : (if fr = true then [] else [32] : List UInt8).length ≤ 1 := by split <;> simp
        omega
theorem tokText_len {t : Tok} (hok : t.Ok) (ht : t.text.size ≤ 60) : (tokText t).length ≤ 60 := by
  rw [tokText]
  split
  · rw [Lib.decDigits_length]
    have := Lib.nDigits_le20 t.num.toNat (by have := hok.num; omega)
    omega
  · exact ht

set_option maxRecDepth 100000 in
set_option maxHeartbeats 4000000 in
theorem prints_walk (l : List Tok) (A : Option Addr) (n c : Nat) (W : World) (htab : PowTab W) (rd : RdT W W.heap.size A n l) (hok : ∀ t ∈ l, t.Ok) (hnc : n ≤ c) :
    Calls Tryd.prog 3 #[.slice A n c] W fun e w' => e = .returned (.bool true) ∧ Below W.heap.size W w' := by
  have h63 := rd.le
  unfold maxLen at h63
  have HLl := Lib.hid rd.tokLen
  have HR := Lib.hid rd
  have HK := Lib.hid hok
  have HT := Lib.hid htab
  clear rd hok htab
  go_enter Tryd.func3, Tryd.ntmps3
  go_wp2_with fail
  refine (alive_any _ HT.out).mono ?_
  rintro e w1 ⟨rfl, hb1⟩
  have HB1 := Lib.hid hb1
  clear hb1
  by_cases h40 : 40 < n
  · go_wp2
    go_ret
    exact ⟨rfl, HB1.out⟩
  · go_wp2
    go_loopw [12, 4] (fun i _u wr => ∃ k : Nat, (k ≤ n ∧ i = .int .i64 k) ∧ Hid (∀ t ∈ l.take k, t.text.size ≤ 60) ∧ Below W.heap.size W wr) (fun i _ _ => n - (intOf i).toNat)
    case atStart => exact ⟨0, ⟨by omega, rfl⟩, by show ∀ t ∈ _, _; simp, HB1.out⟩
    case round =>
      obtain ⟨k, ⟨hk, rfl⟩, HA, hb⟩ := hrel
      have hsz := hb.size
      have HB := Lib.hid hb
      clear hb
      by_cases hlt : k < n
      · obtain ⟨b0, o0, t, hA, hbB, ht, c0, c1, c2, c3, c4⟩ := (HR.out.below HB.out).tokAt hlt
        subst hA
        have HTk : Hid (l.take (k + 1) = l.take k ++ [t]) := by show _ = _; rw [List.take_add_one, ht]; rfl
        clear ht
        obtain ⟨kind, text, num, at_, line⟩ := t
        simp only at c0 c1 c2 c3 c4
        by_cases h60 : 60 < text.size
        · go_wp2
          go_ret
          exact ⟨rfl, HB.out.alloc hsz _⟩
        · have HA1 : Hid (∀ t ∈ l.take (k + 1), t.text.size ≤ 60) := by
            show ∀ t ∈ _, _
            rw [HTk.out]
            intro t ht
            rcases List.mem_append.1 ht with h | h
            · exact HA.out t h
            · obtain rfl := List.mem_singleton.1 h
              show text.size ≤ 60
              omega
          go_wp2
          go_roundw
          case rel => exact ⟨k + 1, ⟨by omega, by go_num⟩, HA1, HB.out.alloc hsz _⟩
          case measure => simp [intOf]; omega
      · obtain rfl : n = k := by omega
        have HLen : Hid ((printP l).length ≤ 140737488355328) := by
          have h := HA.out
          rw [List.take_of_length_le (by rw [HLl.out]; exact Nat.le_refl _)] at h
          have h2 := printGo_len 60 l true (fun t ht => tokText_len (HK.out t ht) (h t ht))
          rw [HLl.out] at h2
          show (printGo l true).length ≤ _
          omega
        have HR1 := Lib.hid ((HR.out.below HB.out).more hsz)
        go_wp2_with fail
        refine (print_any l _ _ _ _ HR1.out HK.out HLen.out (HT.out.below HB.out)).mono ?_
        rintro e w2 ⟨rfl, hb2⟩
        have HB2 := Lib.hid (HB.out.trans (hb2.mono hsz))
        have HR2 := Lib.hid ((HR1.out.below hb2).more hb2.size)
        have hz2 := HB2.out.size
        clear hb2
        go_wp2_with fail
        refine (as_any l _ _ _ _ HR2.out (by omega)).mono ?_
        rintro e w3 ⟨A3, c3, rfl, ho3, hb3⟩
        have HB3 := Lib.hid (HB2.out.trans (hb3.mono hz2))
        have hz3 := HB3.out.size
        obtain ⟨A4, c4, he4, _, hr4⟩ := Rd.of_own_cap ho3
        cases he4
        have HR3 := Lib.hid hr4
        clear ho3 hb3 hr4
        go_wp2_with fail
        refine (rprint_any l _ _ _ _ HR3.out HK.out HLen.out).mono ?_
        rintro e w4 ⟨rfl, hb4⟩
        have HB4 := Lib.hid (HB3.out.trans (hb4.mono hz3))
        clear hb4
        go_wp2
        go_ret
        exact ⟨rfl, HB4.out⟩
end Go.Proofs.YthfienjmajllpaaDoor
