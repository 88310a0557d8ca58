/-
  Chapter 2: contract of tumblerref02.Same.
-/
import Derived.Test.YthfienjmajllpaaDoorGlyI
import Derived.Deep.QuietTactic
import Derived.BigQuiet
namespace Go.Proofs.YthfienjmajllpaaDoor
open Go.RowKit
set_option linter.unusedVariables false

theorem toList_inj {a b : ByteArray} (h : a.toList = b.toList) : a = b := by
  rw [ByteArray.toList_eq, ByteArray.toList_eq] at h
  cases a; cases b
  simp only at h
  congr 1
  exact Array.toList_inj.1 h
/-- Two lists' kinds, texts and numbers are the same. -/
def sameTok (x y : Tok) : Prop := x.kind = y.kind ∧ x.text = y.text ∧ x.num = y.num
instance (x y : Tok) : Decidable (sameTok x y) := by unfold sameTok; infer_instance
def sameP : List Tok → List Tok → Bool
  | [], [] => true
  | x :: l, y :: r => decide (sameTok x y) && sameP l r
  | _, _ => false
theorem sameP_refl (l : List Tok) : sameP l l = true := by
  induction l with
  | nil => rfl
  | cons x l ih => simp [sameP, sameTok, ih]
theorem sameP_len {l r : List Tok} (h : l.length ≠ r.length) : sameP l r = false := by
  induction l generalizing r with
  | nil => cases r with
    | nil => simp at h
    | cons y r => rfl
  | cons x l ih => cases r with
    | nil => rfl
    | cons y r => simp only [sameP]; rw [ih (by simpa using h)]; simp
theorem sameP_drop {l r : List Tok} {j : Nat} {x y : Tok} (hx : l[j]? = some x) (hy : r[j]? = some y) : sameP (l.drop j) (r.drop j) = (decide (sameTok x y) && sameP (l.drop (j + 1)) (r.drop (j + 1))) := by
  rw [drop_at hx, drop_at hy]; rfl

set_option maxRecDepth 100000 in
set_option maxHeartbeats 4000000 in
theorem same_any (l r : List Tok) (A A' : Option Addr) (n c n' c' : Nat) (w : World) (hl : RdT w w.heap.size A n l) (hr : RdT w w.heap.size A' n' r) (h48 : n ≤ 1000000) (h48' : n' ≤ 1000000) :
    Calls Tryd.prog 14 #[.slice A n c, .slice A' n' c'] w fun e w' => e = .returned (.bool (sameP l r)) ∧ Below w.heap.size w w' := by
  have hn := hl.tokLen
  have hn' := hr.tokLen
  have HL := Lib.hid hl
  have HR := Lib.hid hr
  clear hl hr
  by_cases he : n = n'
  · have HN := Lib.hid hn
    have HN' := Lib.hid hn'
    clear hn hn'
    subst he
    go_enter Tryd.func14, Tryd.ntmps14
    go_wp2
    go_loopw [5] (fun k wr => ∃ j : Nat, j ≤ n ∧ k = .int .i64 j ∧ Hid (sameP (l.drop j) (r.drop j) = sameP l r) ∧ Below w.heap.size w wr) (fun k _ => n - (intOf k).toNat)
    case atStart => exact ⟨0, by omega, rfl, rfl, Below.refl _ _⟩
    case round =>
      obtain ⟨j, hj, rfl, ht, hb⟩ := hrel
      have HB := Lib.hid hb
      clear hb
      by_cases hlt : j < n
      · obtain ⟨b, o, x, rfl, hbB, hx, c0, c1, c2, _, _⟩ := (HL.out.below HB.out).tokAt hlt
        obtain ⟨b', o', y, rfl, hbB', hy, d0, d1, d2, _, _⟩ := (HR.out.below HB.out).tokAt hlt
        have HS := Lib.hid (sameP_drop hx hy)
        clear hx hy
        rw [HS.out] at ht
        obtain ⟨xk, xt, xn, _, _⟩ := x
        obtain ⟨yk, yt, yn, _, _⟩ := y
        simp only at c0 c1 c2 d0 d1 d2
        by_cases e0 : xk = yk
        · have g0 : (xk == yk) = true := by simpa using e0
          have f0 : (xk != yk) = false := by rw [bne, g0]; rfl
          by_cases e1 : xt = yt
          · have g1 : (xt.toList == yt.toList) = true := by rw [e1]; exact beq_self_eq_true _
            have f1 : (xt.toList != yt.toList) = false := by rw [bne, g1]; rfl
            by_cases e2 : xn = yn
            · have g2 : (xn == yn) = true := by simpa using e2
              have f2 : (xn != yn) = false := by rw [bne, g2]; rfl
              have ht2 : Hid (sameP (l.drop (j + 1)) (r.drop (j + 1)) = sameP l r) := by
                show _ = _
                rw [← ht.out, decide_eq_true (by exact ⟨e0, e1, e2⟩)]; rfl
              clear e0 e1 e2
              go_wp2
              go_quiet (fail)
              go_wp2
              go_roundw
              case rel => exact ⟨j + 1, by omega, by go_num, ht2, below_drewN HB.out _⟩
              case measure => simp [intOf]; omega
            · have E : Hid (sameP l r = false) := by
                show _ = _
                rw [← ht.out, decide_eq_false (by rintro ⟨_, _, h⟩; exact e2 h)]; rfl
              have g2 : (xn == yn) = false := by simpa using e2
              have f2 : (xn != yn) = true := by rw [bne, g2]; rfl
              clear e0 e1 e2
              go_wp2
              go_quiet (fail)
              go_wp2
              go_ret
              exact ⟨ret_bool E.out.symm, below_drewN HB.out _⟩
          · have E : Hid (sameP l r = false) := by
              show _ = _
              rw [← ht.out, decide_eq_false (by rintro ⟨_, h, _⟩; exact e1 h)]; rfl
            have g1 : (xt.toList == yt.toList) = false := by rw [beq_eq_false_iff_ne]; exact fun e => e1 (toList_inj e)
            have f1 : (xt.toList != yt.toList) = true := by rw [bne, g1]; rfl
            clear e0 e1
            go_wp2
            go_quiet (fail)
            go_wp2
            go_ret
            exact ⟨ret_bool E.out.symm, below_drewN HB.out _⟩
        · have E : Hid (sameP l r = false) := by
            show _ = _
            rw [← ht.out, decide_eq_false (by rintro ⟨h, _, _⟩; exact e0 h)]; rfl
          have g0 : (xk == yk) = false := by simpa using e0
          have f0 : (xk != yk) = true := by rw [bne, g0]; rfl
          clear e0
          go_wp2
          go_quiet (fail)
          go_wp2
          go_ret
          exact ⟨ret_bool E.out.symm, below_drewN HB.out _⟩
      · obtain rfl : j = n := by omega
        have E : Hid (sameP l r = true) := by
          have h := ht.out
          rw [List.drop_of_length_le (by rw [HN.out]; omega), List.drop_of_length_le (by rw [HN'.out]; omega)] at h
          exact h.symm
        go_wp2
        go_ret
        exact ⟨ret_bool E.out.symm, HB.out⟩
  · have E : Hid (sameP l r = false) := sameP_len (by omega)
    have h1 : ((n : Int) == (n' : Int)) = false := by rw [beq_eq_false_iff_ne]; omega
    have h2 : ((n : Int) != (n' : Int)) = true := by rw [bne_iff_ne]; omega
    clear hn hn'
    go_enter Tryd.func14, Tryd.ntmps14
    go_wp2
    go_ret
    exact ⟨ret_bool E.out.symm, Below.refl _ _⟩
end Go.Proofs.YthfienjmajllpaaDoor
