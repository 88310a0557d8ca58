/-
  Chapter 2, plain: the lexer over a list of runes; it is the lexer over bytes.
-/
import Derived.Test.YthklmcpjlpaklaaDoorLexR
namespace Go.Proofs.YthklmcpjlpaklaaDoor
open Go.RowKit
open Go.Lib (decodeL decodeN)
set_option linter.unusedVariables false

structure RSt where
  list : List Tok
  line : Nat
  run : Option (Nat × List UInt8)
  remark : Bool
def putR (st : RSt) (t : Tok) : Int × RSt := if 16384 ≤ st.list.length then (3, st) else (0, { st with list := st.list ++ [{ t with line := st.line }] })
def headR (w : List UInt8) : Bool := match w with
  | c :: _ => isDigit c.toNat
  | [] => false
def shutR (st : RSt) : Int × Int × RSt := match st.run with
  | none => (0, 0, st)
  | some (a, w) =>
    if headR w then match numP w with
      | none => (a, 22, { st with run := none })
      | some n => ((a : Int), putR { st with run := none } { kind := 1, text := ⟨#[]⟩, num := n, at_ := a, line := 0 })
    else if 24 < w.length then (a, 21, { st with run := none }) else ((a : Int), putR { st with run := none } { kind := 0, text := ⟨w.toArray⟩, num := 0, at_ := a, line := 0 })
def inR (c : Nat) (st : RSt) : Bool := isLetter c || isDigit c || (c == 46 && st.run.isSome)
def growR (at_ : Nat) (b : List UInt8) (st : RSt) : RSt := { st with run := match st.run with
  | none => some (at_, b)
  | some (a, w) => some (a, w ++ b) }
def restR (at_ c : Nat) (st1 : RSt) : Int × Int × RSt :=
  if c = 10 then ((at_ : Int), (putR { st1 with remark := false } { kind := 3, text := ⟨#[]⟩, num := 0, at_ := at_, line := 0 }).1,
    { (putR { st1 with remark := false } { kind := 3, text := ⟨#[]⟩, num := 0, at_ := at_, line := 0 }).2 with line := (putR { st1 with remark := false } { kind := 3, text := ⟨#[]⟩, num := 0, at_ := at_, line := 0 }).2.line + 1 })
  else if st1.remark ∨ c = 32 ∨ c = 9 ∨ c = 13 then (0, 0, st1)
  else if c = 35 then (0, 0, { st1 with remark := true })
  else if isSign c then ((at_ : Int), putR st1 { kind := 2, text := Utf8.encode (c : Int), num := 0, at_ := at_, line := 0 })
  else ((at_ : Int), 20, st1)
def runeR (at_ c : Nat) (b : List UInt8) (st : RSt) : Int × Int × RSt :=
  if inR c st && !st.remark then (0, 0, growR at_ b st)
  else if (shutR st).2.1 ≠ 0 then shutR st else restR at_ c (shutR st).2.2
def endR (st : RSt) : List Tok × Int × Int := if (shutR st).2.1 ≠ 0 then ([], (shutR st).1, (shutR st).2.1) else ((shutR st).2.2.list, 0, 0)
def lexR : List (Nat × List UInt8) → Nat → RSt → List Tok × Int × Int
  | [], _, st => endR st
  | (c, b) :: r, pos, st => if (runeR pos c b st).2.1 ≠ 0 then ([], (runeR pos c b st).1, (runeR pos c b st).2.1) else lexR r (pos + b.length) (runeR pos c b st).2.2

/-- The state as the list's lexer has it. -/
def toR (s : ByteArray) (pos : Nat) (st : LSt) : RSt := { list := st.list, line := st.line, run := st.from_.map fun a => (a, (s.extract a pos).data.toList), remark := st.remark }
theorem put_toR (s : ByteArray) (pos : Nat) (st : LSt) (t : Tok) : putR (toR s pos st) t = ((putP st t).1, toR s pos (putP st t).2) := by
  unfold putR putP
  show (if 16384 ≤ st.list.length then _ else _) = _
  split <;> rfl
theorem mk_toList (x : ByteArray) : (⟨x.data.toList.toArray⟩ : ByteArray) = x := by cases x; simp
theorem headIs_R (w : ByteArray) : headIs w = headR w.data.toList := rfl
theorem toR_none (s : ByteArray) (pos pos' : Nat) (st : LSt) (h : st.from_ = none) : toR s pos st = toR s pos' st := by simp [toR, h]
theorem toR_clear (s : ByteArray) (pos pos' : Nat) (st : LSt) : ({ toR s pos st with run := none } : RSt) = toR s pos' { st with from_ := none } := rfl
theorem shut_toR (s : ByteArray) (pos pos' : Nat) (st : LSt) : shutR (toR s pos st) = ((shutP s pos st).1, (shutP s pos st).2.1, toR s pos' (shutP s pos st).2.2) := by
  obtain ⟨list, line, from_, remark⟩ := st
  cases from_ with
  | none => rfl
  | some a =>
    have ht := mk_toList (s.extract a pos)
    have hc := toR_clear s pos pos' ⟨list, line, some a, remark⟩
    rw [shutP_some rfl rfl]
    show (if headR (s.extract a pos).data.toList then _ else _) = _
    rw [headIs_R, hc]
    by_cases hh : headR (s.extract a pos).data.toList = true
    · rw [if_pos hh, if_pos hh]
      cases numP (s.extract a pos).data.toList with
      | none => rfl
      | some n => simp only []; rw [put_toR]
    · rw [if_neg hh, if_neg hh]
      have hl : (s.extract a pos).data.toList.length = (s.extract a pos).size := rfl
      rw [hl]
      by_cases h24 : 24 < (s.extract a pos).size
      · rw [if_pos h24, if_pos h24]
      · rw [if_neg h24, if_neg h24, put_toR, ht]
theorem extract_list (s : ByteArray) (a z : Nat) : (s.extract a z).data.toList = (s.data.toList.drop a).take (z - a) := by
  rw [ByteArray.data_extract, Array.toList_extract]
theorem rune_toR (s : ByteArray) (pos c k : Nat) (st : LSt) (hp : pos < s.size) (hf : ∀ a, st.from_ = some a → a ≤ pos) (hd : Utf8.decode s pos = (c, k)) :
    runeR pos c ((s.data.toList.drop pos).take k) (toR s pos st) = ((runeP s pos c st).1, (runeP s pos c st).2.1, toR s (pos + k) (runeP s pos c st).2.2) := by
  have hin : inR c (toR s pos st) = inRun c st := by simp [inR, inRun, toR]
  by_cases hi : inRun c st = true ∧ st.remark = false
  · have hk : k = 1 := by
      by_cases ha : (s[pos]'hp).toNat < 128
      · rw [decode_ascii s pos hp ha] at hd
        injection hd with _ h; exact h.symm
      · have := (decode_high s pos hp (by omega)).1
        rw [hd] at this
        have h := hi.1
        simp only [inRun, isLetter, isDigit, Bool.or_eq_true, decide_eq_true_eq, Bool.and_eq_true, beq_iff_eq] at h
        simp only at this
        omega
    subst hk
    rw [runeP_in hi.1 hi.2, runeR, hin, hi.1, show (toR s pos st).remark = false from hi.2]
    obtain ⟨list, line, from_, remark⟩ := st
    cases from_ with
    | none =>
      show (0, 0, growR _ _ _) = (0, 0, _)
      simp [growR, toR]
    | some a =>
      have ha := hf a rfl
      show (0, 0, growR _ _ _) = (0, 0, _)
      simp only [growR, toR, Option.map_some, Option.isSome_some, if_true, extract_list]
      have e : (s.data.toList.drop a).take (pos - a) ++ (s.data.toList.drop pos).take 1 = (s.data.toList.drop a).take (pos + 1 - a) := by
        rw [show pos + 1 - a = (pos - a) + 1 by omega, List.take_add, List.drop_drop, show a + (pos - a) = pos by omega]
      rw [e]
  · have ho : inRun c st = false ∨ st.remark = true := by
      rcases h1 : inRun c st with _ | _
      · exact .inl rfl
      · right
        rcases h2 : st.remark with _ | _
        · exact absurd ⟨h1, h2⟩ hi
        · rfl
    have hno : (inR c (toR s pos st) && !(toR s pos st).remark) = false := by
      rw [hin, show (toR s pos st).remark = st.remark from rfl]
      rcases ho with h | h <;> simp [h]
    obtain ⟨p, e, st1, hs⟩ : ∃ p e st1, shutP s pos st = (p, e, st1) := ⟨_, _, _, rfl⟩
    rw [runeP_out ho hs, runeR, hno, shut_toR s pos (pos + k), hs]
    simp only [Bool.false_eq_true, if_false]
    by_cases he : e = 0
    · have e1 : ({ toR s (pos + k) st1 with remark := false } : RSt) = toR s (pos + k) { st1 with remark := false } := rfl
      rw [if_neg (by simp [he]), if_neg (by simp [he]), restR, e1, put_toR]
      by_cases h10 : c = 10
      · rw [if_pos h10, if_pos h10]; rfl
      · rw [if_neg h10, if_neg h10]
        by_cases hb : st1.remark = true ∨ c = 32 ∨ c = 9 ∨ c = 13
        · rw [if_pos hb, if_pos (by exact hb)]
        · rw [if_neg hb, if_neg (by exact hb)]
          by_cases h35 : c = 35
          · rw [if_pos h35, if_pos h35]; rfl
          · rw [if_neg h35, if_neg h35]
            by_cases hsg : isSign c = true
            · rw [if_pos hsg, if_pos hsg, put_toR]
            · rw [if_neg hsg, if_neg hsg]
    · rw [if_pos he, if_pos he]
theorem end_toR (s : ByteArray) (st : LSt) : endR (toR s s.size st) = lexEnd s st := by
  obtain ⟨p, e, st1, hs⟩ : ∃ p e st1, shutP s s.size st = (p, e, st1) := ⟨_, _, _, rfl⟩
  rw [endR, lexEnd, shut_toR s s.size 0, hs]
  rfl
theorem lexGo_R (s : ByteArray) : ∀ (f pos : Nat) (st : LSt), s.size - pos < f → pos ≤ s.size → LInv s pos st → lexGo s f pos st = lexR (runesOf (s.data.toList.drop pos)) pos (toR s pos st)
  | 0, pos, st, h, _, _ => by omega
  | f + 1, pos, st, h, hle, hI => by
    by_cases hp : pos < s.size
    · have hl : s.data.toList.length = s.size := rfl
      have hne : s.data.toList.drop pos ≠ [] := by
        intro e
        have := congrArg List.length e
        rw [List.length_drop, hl, List.length_nil] at this
        omega
      obtain ⟨c, k, hd⟩ : ∃ c k, Utf8.decode s pos = (c, k) := ⟨_, _, rfl⟩
      have hD := Lib.decodeL_drop s pos
      rw [hd] at hD
      have hk1 := decodeL_pos hne
      have hk2 := Lib.decodeL_le _ hne
      rw [hD] at hk1 hk2
      simp only at hk1 hk2
      rw [List.length_drop, hl] at hk2
      have hkl : ((s.data.toList.drop pos).take k).length = k := by rw [List.length_take, List.length_drop, hl]; omega
      obtain ⟨p, e, st2, hr⟩ : ∃ p e st2, runeP s pos c st = (p, e, st2) := ⟨_, _, _, rfl⟩
      have hR := rune_toR s pos c k st hp (fun a ha => by have := hI.from_ a ha; omega) hd
      have hI2 := runeP_inv (c := c) (k := k) hI hp hk1
      rw [hr] at hR hI2
      rw [lexGo_step hp hd hr, runesOf_cons hne, hD]
      simp only [lexR]
      rw [hR]
      simp only
      rw [hkl, lexGo_R s f (pos + k) st2 (by omega) (by omega) hI2, List.drop_drop]
    · have hpe : pos = s.size := by omega
      subst hpe
      rw [lexGo_done hp, List.drop_of_length_le (by exact Nat.le_refl _), runesOf_nil, lexR, end_toR]
/-- The state at a text's start. -/
def r0 : RSt := { list := [], line := 0, run := none, remark := false }
/-- THE LEXER OVER THE LIST OF RUNES. -/
theorem lexP_R (s : ByteArray) (hs : s.size ≤ 65536) : lexP s = lexR (runesOf s.data.toList) 0 r0 := by
  rw [lexP, if_neg (by omega), lexGo_R s (s.size + 1) 0 _ (by omega) (by omega) ⟨by simp, by simp, fun a ha => by cases ha⟩]
  rfl
end Go.Proofs.YthklmcpjlpaklaaDoor
