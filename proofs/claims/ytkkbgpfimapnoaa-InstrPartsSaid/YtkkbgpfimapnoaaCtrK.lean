/-
  Chapter 3: contract of instr.Decode.
-/
import Derived.Test.YtkkbgpfimapnoaaCtrJ
import Derived.BigRegion
import Derived.Test.YtkkbgpfimapnoaaNumA
namespace Go.Proofs.Ytkkbgpfimapnoaa
open Go.RowKit
set_option linter.unusedVariables false

theorem elem_u8s : Try.prog.underlying 23 = some (.slice (Try.prog.elem 23)) := by kernel_rfl
theorem size_u8s (W : World) : (sizeOf (Try.prog.elem 23)).run Try.prog W = .ok 1 W := by kernel_rfl

/-- How many instructions bytes tell of; the instruction at a place. -/
def decN (bs : List Int) : Int := bs.getD 2 0 + bs.getD 3 0 * 256
def decAt (bs : List Int) (k : Nat) : Ins :=
  { op := bs.getD (4 + 12 * k) 0, a := bs.getD (4 + 12 * k + 1) 0, b := bs.getD (4 + 12 * k + 2) 0, c := bs.getD (4 + 12 * k + 3) 0, imm := getL ((bs.drop (4 + 12 * k + 4)).take 8) }
def decList (bs : List Int) : List Ins := (List.range (decN bs).toNat).map (decAt bs)
def decCode (bs : List Int) : Int :=
  if bs.length < 4 then 34 else if bs.getD 0 0 ≠ 84 ∨ bs.getD 1 0 ≠ 66 then 33 else if 256 < decN bs then 3
  else if (bs.length : Int) < 4 + 12 * decN bs then 34 else if 4 + 12 * decN bs < bs.length then 35 else if (decList bs).all Ins.plain then 0 else 30
def decIns (bs : List Int) : List Ins := if decCode bs = 0 then decList bs else []
/-- What Decode comes to. -/
def DecPost (bs : List Int) (w : World) (e : Ending) (w' : World) : Prop :=
  ∃ v, e = .returned (.tuple #[v, .int .i64 (decCode bs)]) ∧ w'.ownsRow w.heap.size 47 5 v (decIns bs).length (insCells (decIns bs)) ∧ Below w.heap.size w w'
theorem DecPost.bad {bs : List Int} {w w' : World} {e : Int} (h : decCode bs = e) (he : e ≠ 0) (hb : Below w.heap.size w w') : DecPost bs w (.returned (.tuple #[.slice none 0 0, .int .i64 e])) w' := by
  subst h
  refine ⟨_, rfl, ?_, hb⟩
  rw [decIns, if_neg he]; exact World.ownsRow_nil _ _ _ _

theorem Rd.getD_ {w : World} {B n b o : Nat} {l : List Int} (h : RdB w B (some ⟨b, o, none⟩) n l) {k : Nat} (hk : k < n) : w.cell? ⟨b, o + k, none⟩ = some (.int .u8 (l.getD k 0)) := by
  obtain ⟨x, hx, hc⟩ := h.byt_ hk
  rw [List.getD_eq_getElem?_getD, hx]; exact hc
theorem Byts.getD_ {l : List Int} (h : Byts l) (k : Nat) : 0 ≤ l.getD k 0 ∧ l.getD k 0 ≤ 255 := by
  rw [List.getD_eq_getElem?_getD]
  cases hx : l[k]? with
  | none => simp
  | some x => exact h x (List.mem_of_getElem? hx)

theorem decode_lt (bs : List Int) (A : Option Addr) (n c : Nat) (w : World) (hr : RdB w w.heap.size A n bs) (hnc : n ≤ c) (h4 : n < 4) :
    Calls Try.prog 17 #[.slice A n c] w (DecPost bs w) := by
  have E : decCode bs = 34 := by rw [decCode, if_pos (by rw [hr.bytLen]; exact h4)]
  have HE := Lib.hid E
  clear E hr
  go_enter Try.func17, Try.ntmps17
  go_wp2
  go_ret2
  exact DecPost.bad HE.out (by decide) (Below.refl _ _)

theorem decode_bad (bs : List Int) (b o n c : Nat) (w : World) (hr : RdB w w.heap.size (some ⟨b, o, none⟩) n bs) (hy : Byts bs) (hnc : n ≤ c) (h4 : 4 ≤ n)
    (h : ¬ (bs.getD 0 0 = 84 ∧ bs.getD 1 0 = 66 ∧ decN bs ≤ 256 ∧ (bs.length : Int) = 4 + 12 * decN bs)) :
    Calls Try.prog 17 #[.slice (some ⟨b, o, none⟩) n c] w (DecPost bs w) := by
  have h63 := hr.le
  unfold maxLen at h63
  have c0 := hr.getD_ (k := 0) (by omega)
  have c1 := hr.getD_ (k := 1) (by omega)
  have c2 := hr.getD_ (k := 2) (by omega)
  have c3 := hr.getD_ (k := 3) (by omega)
  rw [Nat.add_zero] at c0
  have b2 := hy.getD_ 2
  have b3 := hy.getD_ 3
  have hl := hr.bytLen
  have HC : Hid (decCode bs = if bs.getD 0 0 ≠ 84 ∨ bs.getD 1 0 ≠ 66 then 33 else if 256 < bs.getD 2 0 + bs.getD 3 0 * 256 then 3
      else if (n : Int) < 4 + 12 * (bs.getD 2 0 + bs.getD 3 0 * 256) then 34 else if 4 + 12 * (bs.getD 2 0 + bs.getD 3 0 * 256) < (n : Int) then 35 else if (decList bs).all Ins.plain then 0 else 30) := by
    show _ = _
    rw [decCode, if_neg (by omega), hl]; rfl
  rw [hl] at h
  unfold decN at h
  generalize bs.getD 0 0 = x0 at *
  generalize bs.getD 1 0 = x1 at *
  generalize bs.getD 2 0 = x2 at *
  generalize bs.getD 3 0 = x3 at *
  clear hl hr hy
  by_cases h0 : x0 = 84
  · subst h0
    by_cases h1 : x1 = 66
    · subst h1
      by_cases h2 : 256 < x2 + x3 * 256
      · have HE : Hid (decCode bs = 3) := by show _ = _; rw [HC.out, if_neg (by simp), if_pos h2]
        clear HC h
        go_enter Try.func17, Try.ntmps17
        go_wp2
        go_quiet (fail)
        go_wp2
        go_ret2
        exact DecPost.bad HE.out (by decide) (below_drewN (Below.refl _ _) _)
      · have h2' : x2 + x3 * 256 ≤ 256 := by omega
        by_cases h3 : (n : Int) < 4 + 12 * (x2 + x3 * 256)
        · have HE : Hid (decCode bs = 34) := by show _ = _; rw [HC.out, if_neg (by simp), if_neg h2, if_pos h3]
          clear HC h
          go_enter Try.func17, Try.ntmps17
          go_wp2
          go_quiet (fail)
          go_wp2
          go_ret2
          exact DecPost.bad HE.out (by decide) (below_drewN (Below.refl _ _) _)
        · have h5 : 4 + 12 * (x2 + x3 * 256) < (n : Int) := by omega
          have HE : Hid (decCode bs = 35) := by show _ = _; rw [HC.out, if_neg (by simp), if_neg h2, if_neg h3, if_pos h5]
          clear HC h
          go_enter Try.func17, Try.ntmps17
          go_wp2
          go_quiet (fail)
          go_wp2
          go_ret2
          exact DecPost.bad HE.out (by decide) (below_drewN (Below.refl _ _) _)
    · have HE : Hid (decCode bs = 33) := by show _ = _; rw [HC.out, if_pos (.inr h1)]
      have e1 : (x1 == 66) = false := by simpa using h1
      have e2 : (x1 != 66) = true := by simpa using h1
      clear HC h h1
      go_enter Try.func17, Try.ntmps17
      go_wp2
      go_quiet (fail)
      go_wp2
      go_ret2
      exact DecPost.bad HE.out (by decide) (below_drewN (Below.refl _ _) _)
  · have HE : Hid (decCode bs = 33) := by show _ = _; rw [HC.out, if_pos (.inl h0)]
    have e1 : (x0 == 84) = false := by simpa using h0
    have e2 : (x0 != 84) = true := by simpa using h0
    clear HC h h0
    go_enter Try.func17, Try.ntmps17
    go_wp2
    go_quiet (fail)
    go_wp2
    go_ret2
    exact DecPost.bad HE.out (by decide) (below_drewN (Below.refl _ _) _)

theorem getD_drop (l : List Int) (k j : Nat) : (l.drop k).getD j 0 = l.getD (k + j) 0 := by
  simp [List.getD_eq_getElem?_getD, List.getElem?_drop]
theorem getL_snoc (l : List Int) (x : Int) : getL (l ++ [x]) = getL l + x * 256 ^ l.length := by
  induction l with
  | nil => simp [getL]
  | cons b r ih =>
    simp only [List.cons_append, getL, ih, List.length_cons, Int.pow_succ, Int.mul_add]
    rw [← Int.mul_assoc 256 x, Int.mul_comm 256 x, Int.mul_assoc x 256, Int.mul_comm 256 (256 ^ r.length), Int.add_assoc]
theorem decList_at {bs : List Int} {N k : Nat} (hN : decN bs = N) (hk : k < N) : (decList bs)[k]? = some (decAt bs k) := by
  simp [decList, hN, hk]
theorem decList_length {bs : List Int} {N : Nat} (hN : decN bs = N) : (decList bs).length = N := by
  simp [decList, hN]
/-- A slice's length. -/
def sliceLen : Value → Nat
  | .slice _ n _ => n
  | _ => 0
end Go.Proofs.Ytkkbgpfimapnoaa
