/-
  Texts of one proof, joined (wip/gen/pack.py): LexR, LexS, LexT, PrtP, LexB, LexF, BackP, AsmL.
-/
import Derived.Test.YthdlihiehfkceaaDoorPtAD
import Derived.Lib.MapLaws
import Derived.Lib.TrimAscii
import Derived.Test.YthdlihiehfkceaaDoorPtAA
import Derived.Lib.ItoaLen
namespace Go.Proofs.YthdlihiehfkceaaDoor
open Go.RowKit
open Go.Lib (decodeL decodeN)
set_option linter.unusedVariables false

/-- A text's runes, each with its bytes. -/
def runesN : Nat → List UInt8 → List (Nat × List UInt8)
  | 0, _ => []
  | f + 1, l => if l = [] then [] else ((decodeL l).1, l.take (decodeL l).2) :: runesN f (l.drop (decodeL l).2)
def runesOf (l : List UInt8) : List (Nat × List UInt8) := runesN l.length l
theorem decodeL_pos {l : List UInt8} (h : l ≠ []) : 1 ≤ (decodeL l).2 := by
  rw [Lib.decodeL_N]
  rcases Lib.decodeN_shape l.length (l.getD 0 0).toNat (l.getD 1 0).toNat (l.getD 2 0).toNat (l.getD 3 0).toNat with ⟨_, h⟩ | ⟨_, _, _, _, h⟩ | ⟨_, _, _, _, _, _, h⟩ | ⟨_, _, _, _, _, _, _, h⟩ | h <;> rw [h] <;> simp
theorem runesN_more : ∀ (f g : Nat) (l : List UInt8), l.length ≤ f → l.length ≤ g → runesN f l = runesN g l
  | 0, 0, _, _, _ => rfl
  | 0, g + 1, l, h, _ => by
    obtain rfl : l = [] := List.eq_nil_of_length_eq_zero (by omega)
    rfl
  | f + 1, 0, l, _, h => by
    obtain rfl : l = [] := List.eq_nil_of_length_eq_zero (by omega)
    rfl
  | f + 1, g + 1, l, h, h' => by
    rw [runesN, runesN]
    by_cases hl : l = []
    · rw [if_pos hl, if_pos hl]
    · rw [if_neg hl, if_neg hl]
      have := decodeL_pos hl
      rw [runesN_more f g _ (by rw [List.length_drop]; omega) (by rw [List.length_drop]; omega)]
theorem runesOf_nil : runesOf [] = [] := rfl
theorem runesOf_cons {l : List UInt8} (h : l ≠ []) : runesOf l = ((decodeL l).1, l.take (decodeL l).2) :: runesOf (l.drop (decodeL l).2) := by
  have hp := decodeL_pos h
  have h0 : 0 < l.length := List.length_pos_iff.2 h
  rw [runesOf, runesOf, runesN_more l.length ((l.length - 1) + 1) l (Nat.le_refl _) (by omega), runesN, if_neg h]
  rw [runesN_more (l.length - 1) _ _ (by rw [List.length_drop]; omega) (Nat.le_refl _)]
theorem runesOf_ascii (c : UInt8) (l : List UInt8) (h : c.toNat < 128) : runesOf (c :: l) = (c.toNat, [c]) :: runesOf l := by
  rw [runesOf_cons (by simp), Lib.decodeL_ascii c l h]; rfl
theorem decodeN_next (n m b0 b1 b2 b3 c1 c2 c3 : Nat) (h0 : 1 ≤ n) (h1 : n ≤ m) (e1 : 1 < n → b1 = c1) (e2 : 2 < n → b2 = c2) (e3 : 3 < n → b3 = c3)
    (g1 : n = 1 → m = n ∨ c1 < 128) (g2 : n = 2 → m = n ∨ c2 < 128) (g3 : n = 3 → m = n ∨ c3 < 128) : decodeN m b0 c1 c2 c3 = decodeN n b0 b1 b2 b3 := by
  unfold decodeN
  by_cases k1 : 1 < n
  · obtain rfl := e1 k1
    by_cases k2 : 2 < n
    · obtain rfl := e2 k2
      by_cases k3 : 3 < n
      · obtain rfl := e3 k3
        simp only [k1, k2, k3, show 1 < m by omega, show 2 < m by omega, show 3 < m by omega]
      · obtain rfl : n = 3 := by omega
        have : ¬ (3 < m ∧ c3 / 64 = 2) := by rcases g3 rfl with h | h <;> omega
        simp only [k1, k2, k3, show 1 < m by omega, show 2 < m by omega, this, false_and, and_false, true_and, if_false]
    · obtain rfl : n = 2 := by omega
      have : ¬ (2 < m ∧ c2 / 64 = 2) := by rcases g2 rfl with h | h <;> omega
      simp only [k1, k2, show 1 < m by omega, this, false_and, and_false, true_and, if_false]
  · obtain rfl : n = 1 := by omega
    have : ¬ (1 < m ∧ c1 / 64 = 2) := by rcases g1 rfl with h | h <;> omega
    simp only [k1, this, false_and, and_false, if_false]
/-- What follows begins with a byte below 128, or there is nothing. -/
def plainHead (r : List UInt8) : Prop := r = [] ∨ ∃ c r', r = c :: r' ∧ c.toNat < 128
theorem decodeL_next {l r : List UInt8} (h : l ≠ []) (hr : plainHead r) : decodeL (l ++ r) = decodeL l := by
  have h0 : 0 < l.length := List.length_pos_iff.2 h
  have hin : ∀ k, k < l.length → (l ++ r).getD k 0 = l.getD k 0 := fun k hk => by
    rw [List.getD_eq_getElem?_getD, List.getD_eq_getElem?_getD, List.getElem?_append_left hk]
  have hout : (l ++ r).length = l.length ∨ ((l ++ r).getD l.length 0).toNat < 128 := by
    rcases hr with rfl | ⟨c, r', rfl, hc⟩
    · left; simp
    · right
      rw [List.getD_eq_getElem?_getD, List.getElem?_append_right (Nat.le_refl _), Nat.sub_self]
      simpa using hc
  rw [Lib.decodeL_N, Lib.decodeL_N, hin 0 h0]
  refine decodeN_next _ _ _ _ _ _ _ _ _ (by omega) (by rw [List.length_append]; omega) (fun k => by rw [hin 1 k]) (fun k => by rw [hin 2 k]) (fun k => by rw [hin 3 k]) (fun k => ?_) (fun k => ?_) (fun k => ?_)
  all_goals
    rw [k] at hout
    exact hout.imp (fun e => e.trans k.symm) id
theorem runesOf_append (r : List UInt8) (hr : plainHead r) : ∀ (n : Nat) (l : List UInt8), l.length ≤ n → runesOf (l ++ r) = runesOf l ++ runesOf r
  | 0, l, hn => by
    obtain rfl : l = [] := List.eq_nil_of_length_eq_zero (by omega)
    rfl
  | n + 1, l, hn => by
    by_cases hl : l = []
    · subst hl; rfl
    · have hp := decodeL_pos hl
      have hle := Lib.decodeL_le l hl
      rw [runesOf_cons (l := l ++ r) (by simp [hl]), runesOf_cons hl, decodeL_next hl hr, List.take_append_of_le_length hle, List.drop_append_of_le_length hle,
        runesOf_append r hr n _ (by rw [List.length_drop]; omega)]
      rfl
end Go.Proofs.YthdlihiehfkceaaDoor

namespace Go.Proofs.YthdlihiehfkceaaDoor
open Go.RowKit
open Go.Lib (decodeL decodeN)
set_option linter.unusedVariables false

structure RSt where
  list : List Tok
  line : Nat
  run : Option (Nat × List UInt8)
  remark : Bool
def putR (st : RSt) (t : Tok) : Int × RSt := if 16384 ≤ st.list.length then (3, st) else (0, { st with list := st.list ++ [{ t with line := st.line }] })
def headR (w : List UInt8) : Bool := match w with
  | c :: _ => isDigit c.toNat
  | [] => false
def shutR (st : RSt) : Int × Int × RSt := match st.run with
  | none => (0, 0, st)
  | some (a, w) =>
    if headR w then match numP w with
      | none => (a, 22, { st with run := none })
      | some n => ((a : Int), putR { st with run := none } { kind := 1, text := ⟨#[]⟩, num := n, at_ := a, line := 0 })
    else if 24 < w.length then (a, 21, { st with run := none }) else ((a : Int), putR { st with run := none } { kind := 0, text := ⟨w.toArray⟩, num := 0, at_ := a, line := 0 })
def inR (c : Nat) (st : RSt) : Bool := isLetter c || isDigit c || (c == 46 && st.run.isSome)
def growR (at_ : Nat) (b : List UInt8) (st : RSt) : RSt := { st with run := match st.run with
  | none => some (at_, b)
  | some (a, w) => some (a, w ++ b) }
def restR (at_ c : Nat) (st1 : RSt) : Int × Int × RSt :=
  if c = 10 then ((at_ : Int), (putR { st1 with remark := false } { kind := 3, text := ⟨#[]⟩, num := 0, at_ := at_, line := 0 }).1,
    { (putR { st1 with remark := false } { kind := 3, text := ⟨#[]⟩, num := 0, at_ := at_, line := 0 }).2 with line := (putR { st1 with remark := false } { kind := 3, text := ⟨#[]⟩, num := 0, at_ := at_, line := 0 }).2.line + 1 })
  else if st1.remark ∨ c = 32 ∨ c = 9 ∨ c = 13 then (0, 0, st1)
  else if c = 35 then (0, 0, { st1 with remark := true })
  else if isSign c then ((at_ : Int), putR st1 { kind := 2, text := Utf8.encode (c : Int), num := 0, at_ := at_, line := 0 })
  else ((at_ : Int), 20, st1)
def runeR (at_ c : Nat) (b : List UInt8) (st : RSt) : Int × Int × RSt :=
  if inR c st && !st.remark then (0, 0, growR at_ b st)
  else if (shutR st).2.1 ≠ 0 then shutR st else restR at_ c (shutR st).2.2
def endR (st : RSt) : List Tok × Int × Int := if (shutR st).2.1 ≠ 0 then ([], (shutR st).1, (shutR st).2.1) else ((shutR st).2.2.list, 0, 0)
def lexR : List (Nat × List UInt8) → Nat → RSt → List Tok × Int × Int
  | [], _, st => endR st
  | (c, b) :: r, pos, st => if (runeR pos c b st).2.1 ≠ 0 then ([], (runeR pos c b st).1, (runeR pos c b st).2.1) else lexR r (pos + b.length) (runeR pos c b st).2.2

/-- The state as the list's lexer has it. -/
def toR (s : ByteArray) (pos : Nat) (st : LSt) : RSt := { list := st.list, line := st.line, run := st.from_.map fun a => (a, (s.extract a pos).data.toList), remark := st.remark }
theorem put_toR (s : ByteArray) (pos : Nat) (st : LSt) (t : Tok) : putR (toR s pos st) t = ((putP st t).1, toR s pos (putP st t).2) := by
  unfold putR putP
  show (if 16384 ≤ st.list.length then _ else _) = _
  split <;> rfl
theorem mk_toList (x : ByteArray) : (⟨x.data.toList.toArray⟩ : ByteArray) = x := by cases x; simp
theorem headIs_R (w : ByteArray) : headIs w = headR w.data.toList := rfl
theorem toR_none (s : ByteArray) (pos pos' : Nat) (st : LSt) (h : st.from_ = none) : toR s pos st = toR s pos' st := by simp [toR, h]
theorem toR_clear (s : ByteArray) (pos pos' : Nat) (st : LSt) : ({ toR s pos st with run := none } : RSt) = toR s pos' { st with from_ := none } := rfl
theorem shut_toR (s : ByteArray) (pos pos' : Nat) (st : LSt) : shutR (toR s pos st) = ((shutP s pos st).1, (shutP s pos st).2.1, toR s pos' (shutP s pos st).2.2) := by
  obtain ⟨list, line, from_, remark⟩ := st
  cases from_ with
  | none => rfl
  | some a =>
    have ht := mk_toList (s.extract a pos)
    have hc := toR_clear s pos pos' ⟨list, line, some a, remark⟩
    rw [shutP_some rfl rfl]
    show (if headR (s.extract a pos).data.toList then _ else _) = _
    rw [headIs_R, hc]
    by_cases hh : headR (s.extract a pos).data.toList = true
    · rw [if_pos hh, if_pos hh]
      cases numP (s.extract a pos).data.toList with
      | none => rfl
      | some n => simp only []; rw [put_toR]
    · rw [if_neg hh, if_neg hh]
      have hl : (s.extract a pos).data.toList.length = (s.extract a pos).size := rfl
      rw [hl]
      by_cases h24 : 24 < (s.extract a pos).size
      · rw [if_pos h24, if_pos h24]
      · rw [if_neg h24, if_neg h24, put_toR, ht]
theorem extract_list (s : ByteArray) (a z : Nat) : (s.extract a z).data.toList = (s.data.toList.drop a).take (z - a) := by
  rw [ByteArray.data_extract, Array.toList_extract]
theorem rune_toR (s : ByteArray) (pos c k : Nat) (st : LSt) (hp : pos < s.size) (hf : ∀ a, st.from_ = some a → a ≤ pos) (hd : Utf8.decode s pos = (c, k)) :
    runeR pos c ((s.data.toList.drop pos).take k) (toR s pos st) = ((runeP s pos c st).1, (runeP s pos c st).2.1, toR s (pos + k) (runeP s pos c st).2.2) := by
  have hin : inR c (toR s pos st) = inRun c st := by simp [inR, inRun, toR]
  by_cases hi : inRun c st = true ∧ st.remark = false
  · have hk : k = 1 := by
      by_cases ha : (s[pos]'hp).toNat < 128
      · rw [decode_ascii s pos hp ha] at hd
        injection hd with _ h; exact h.symm
      · have := (decode_high s pos hp (by omega)).1
        rw [hd] at this
        have h := hi.1
        simp only [inRun, isLetter, isDigit, Bool.or_eq_true, decide_eq_true_eq, Bool.and_eq_true, beq_iff_eq] at h
        simp only at this
        omega
    subst hk
    rw [runeP_in hi.1 hi.2, runeR, hin, hi.1, show (toR s pos st).remark = false from hi.2]
    obtain ⟨list, line, from_, remark⟩ := st
    cases from_ with
    | none =>
      show (0, 0, growR _ _ _) = (0, 0, _)
      simp [growR, toR]
    | some a =>
      have ha := hf a rfl
      show (0, 0, growR _ _ _) = (0, 0, _)
      simp only [growR, toR, Option.map_some, Option.isSome_some, if_true, extract_list]
      have e : (s.data.toList.drop a).take (pos - a) ++ (s.data.toList.drop pos).take 1 = (s.data.toList.drop a).take (pos + 1 - a) := by
        rw [show pos + 1 - a = (pos - a) + 1 by omega, List.take_add, List.drop_drop, show a + (pos - a) = pos by omega]
      rw [e]
  · have ho : inRun c st = false ∨ st.remark = true := by
      rcases h1 : inRun c st with _ | _
      · exact .inl rfl
      · right
        rcases h2 : st.remark with _ | _
        · exact absurd ⟨h1, h2⟩ hi
        · rfl
    have hno : (inR c (toR s pos st) && !(toR s pos st).remark) = false := by
      rw [hin, show (toR s pos st).remark = st.remark from rfl]
      rcases ho with h | h <;> simp [h]
    obtain ⟨p, e, st1, hs⟩ : ∃ p e st1, shutP s pos st = (p, e, st1) := ⟨_, _, _, rfl⟩
    rw [runeP_out ho hs, runeR, hno, shut_toR s pos (pos + k), hs]
    simp only [Bool.false_eq_true, if_false]
    by_cases he : e = 0
    · have e1 : ({ toR s (pos + k) st1 with remark := false } : RSt) = toR s (pos + k) { st1 with remark := false } := rfl
      rw [if_neg (by simp [he]), if_neg (by simp [he]), restR, e1, put_toR]
      by_cases h10 : c = 10
      · rw [if_pos h10, if_pos h10]; rfl
      · rw [if_neg h10, if_neg h10]
        by_cases hb : st1.remark = true ∨ c = 32 ∨ c = 9 ∨ c = 13
        · rw [if_pos hb, if_pos (by exact hb)]
        · rw [if_neg hb, if_neg (by exact hb)]
          by_cases h35 : c = 35
          · rw [if_pos h35, if_pos h35]; rfl
          · rw [if_neg h35, if_neg h35]
            by_cases hsg : isSign c = true
            · rw [if_pos hsg, if_pos hsg, put_toR]
            · rw [if_neg hsg, if_neg hsg]
    · rw [if_pos he, if_pos he]
theorem end_toR (s : ByteArray) (st : LSt) : endR (toR s s.size st) = lexEnd s st := by
  obtain ⟨p, e, st1, hs⟩ : ∃ p e st1, shutP s s.size st = (p, e, st1) := ⟨_, _, _, rfl⟩
  rw [endR, lexEnd, shut_toR s s.size 0, hs]
  rfl
theorem lexGo_R (s : ByteArray) : ∀ (f pos : Nat) (st : LSt), s.size - pos < f → pos ≤ s.size → LInv s pos st → lexGo s f pos st = lexR (runesOf (s.data.toList.drop pos)) pos (toR s pos st)
  | 0, pos, st, h, _, _ => by omega
  | f + 1, pos, st, h, hle, hI => by
    by_cases hp : pos < s.size
    · have hl : s.data.toList.length = s.size := rfl
      have hne : s.data.toList.drop pos ≠ [] := by
        intro e
        have := congrArg List.length e
        rw [List.length_drop, hl, List.length_nil] at this
        omega
      obtain ⟨c, k, hd⟩ : ∃ c k, Utf8.decode s pos = (c, k) := ⟨_, _, rfl⟩
      have hD := Lib.decodeL_drop s pos
      rw [hd] at hD
      have hk1 := decodeL_pos hne
      have hk2 := Lib.decodeL_le _ hne
      rw [hD] at hk1 hk2
      simp only at hk1 hk2
      rw [List.length_drop, hl] at hk2
      have hkl : ((s.data.toList.drop pos).take k).length = k := by rw [List.length_take, List.length_drop, hl]; omega
      obtain ⟨p, e, st2, hr⟩ : ∃ p e st2, runeP s pos c st = (p, e, st2) := ⟨_, _, _, rfl⟩
      have hR := rune_toR s pos c k st hp (fun a ha => by have := hI.from_ a ha; omega) hd
      have hI2 := runeP_inv (c := c) (k := k) hI hp hk1
      rw [hr] at hR hI2
      rw [lexGo_step hp hd hr, runesOf_cons hne, hD]
      simp only [lexR]
      rw [hR]
      simp only
      rw [hkl, lexGo_R s f (pos + k) st2 (by omega) (by omega) hI2, List.drop_drop]
    · have hpe : pos = s.size := by omega
      subst hpe
      rw [lexGo_done hp, List.drop_of_length_le (by exact Nat.le_refl _), runesOf_nil, lexR, end_toR]
/-- The state at a text's start. -/
def r0 : RSt := { list := [], line := 0, run := none, remark := false }
/-- THE LEXER OVER THE LIST OF RUNES. -/
theorem lexP_R (s : ByteArray) (hs : s.size ≤ 65536) : lexP s = lexR (runesOf s.data.toList) 0 r0 := by
  rw [lexP, if_neg (by omega), lexGo_R s (s.size + 1) 0 _ (by omega) (by omega) ⟨by simp, by simp, fun a ha => by cases ha⟩]
  rfl
end Go.Proofs.YthdlihiehfkceaaDoor

namespace Go.Proofs.YthdlihiehfkceaaDoor
open Go.RowKit
open Go.Lib (decodeL decodeN)
set_option linter.unusedVariables false

theorem shutR_none {st : RSt} (h : st.run = none) : shutR st = (0, 0, st) := by rw [shutR, h]
theorem putR_run (st : RSt) (t : Tok) : (putR st t).2.run = st.run := by unfold putR; split <;> rfl
theorem putR_remark (st : RSt) (t : Tok) : (putR st t).2.remark = st.remark := by unfold putR; split <;> rfl
theorem putR_ok {st : RSt} (t : Tok) (h : st.list.length < 16384) : putR st t = (0, { st with list := st.list ++ [{ t with line := st.line }] }) := by rw [putR, if_neg (by omega)]
theorem shutR_kept (st : RSt) : (shutR st).2.2.run = none ∧ (shutR st).2.2.remark = st.remark ∧ (shutR st).2.2.line = st.line := by
  have hl : ∀ (x : RSt) (t : Tok), (putR x t).2.line = x.line := fun x t => by unfold putR; split <;> rfl
  unfold shutR
  rcases hr : st.run with _ | ⟨a, w⟩
  · exact ⟨hr, rfl, rfl⟩
  · simp only
    split
    · split
      · exact ⟨rfl, rfl, rfl⟩
      · exact ⟨by rw [putR_run], by rw [putR_remark], by rw [hl]⟩
    · split
      · exact ⟨rfl, rfl, rfl⟩
      · exact ⟨by rw [putR_run], by rw [putR_remark], by rw [hl]⟩
/-- A rune that stands in no run shuts it first. -/
theorem runeR_shut {pos c : Nat} {b : List UInt8} {st : RSt} (h : inR c st = false ∨ st.remark = true) (he : (shutR st).2.1 = 0) : runeR pos c b st = runeR pos c b (shutR st).2.2 := by
  obtain ⟨h1, h2, _⟩ := shutR_kept st
  have hn : (inR c st && !st.remark) = false := by rcases h with h | h <;> simp [h]
  have hn' : (inR c (shutR st).2.2 && !(shutR st).2.2.remark) = false := by
    rw [h2]
    rcases h with h | h
    · have : inR c (shutR st).2.2 = false := by
        simp only [inR, Bool.or_eq_false_iff] at h
        simp [inR, h.1.1, h.1.2, h1]
      rw [this]; rfl
    · simp [h]
  rw [runeR, runeR, hn, hn', shutR_none h1]
  simp [he]
theorem endR_shut {st : RSt} (he : (shutR st).2.1 = 0) : endR st = endR (shutR st).2.2 := by
  rw [endR, endR, shutR_none (shutR_kept st).1, he]; simp
/-- What follows is nothing, a blank or a line's end: then the run may be shut ahead of it. -/
theorem lexR_close {rest : List UInt8} (h : rest = [] ∨ ∃ c r, rest = c :: r ∧ (c = 10 ∨ c = 32 ∨ c = 9 ∨ c = 35)) {pos : Nat} {st : RSt} (he : (shutR st).2.1 = 0) :
    lexR (runesOf rest) pos st = lexR (runesOf rest) pos (shutR st).2.2 := by
  rcases h with rfl | ⟨c, r, rfl, hc⟩
  · exact endR_shut he
  · have hs : c.toNat < 128 := by rcases hc with rfl | rfl | rfl | rfl <;> decide
    have hi : inR c.toNat st = false := by rcases hc with rfl | rfl | rfl | rfl <;> simp [inR, isLetter, isDigit]
    rw [runesOf_ascii c r hs, lexR, lexR, runeR_shut (.inl hi) he]
/-- A byte that stands behind a run's first. -/
def moreByte (c : UInt8) : Bool := runByte c || c == 46
theorem moreByte_small {c : UInt8} (h : moreByte c = true) : c.toNat < 128 := by
  simp only [moreByte, Bool.or_eq_true, beq_iff_eq] at h
  rcases h with h | rfl
  · exact runByte_small h
  · decide
theorem lexR_more (rest : List UInt8) : ∀ (r : List UInt8) (pos a : Nat) (w : List UInt8) (st : RSt), (∀ x ∈ r, moreByte x = true) → st.run = some (a, w) → st.remark = false →
    lexR (runesOf (r ++ rest)) pos st = lexR (runesOf rest) (pos + r.length) { st with run := some (a, w ++ r) }
  | [], pos, a, w, st, _, hr, _ => by
    have : ({ st with run := some (a, w ++ []) } : RSt) = st := by rw [List.append_nil, ← hr]
    rw [this]; rfl
  | x :: r, pos, a, w, st, hall, hr, hm => by
    have hx := hall x (by simp)
    have hi : inR x.toNat st = true := by
      simp only [moreByte, Bool.or_eq_true, beq_iff_eq, runByte] at hx
      rcases hx with hx | rfl
      · simp only [inR]; rw [Bool.or_eq_true]; exact .inl (by simpa using hx)
      · simp [inR, hr]
    have hrn : runeR pos x.toNat [x] st = (0, 0, { st with run := some (a, w ++ [x]) }) := by
      rw [runeR, hi, hm]
      simp [growR, hr, hm]
    rw [List.cons_append, runesOf_ascii x _ (moreByte_small hx), lexR, hrn]
    simp only [ne_eq, not_true_eq_false, if_false]
    rw [lexR_more rest r (pos + [x].length) a (w ++ [x]) { st with run := some (a, w ++ [x]) } (fun y hy => hall y (by simp [hy])) rfl hm]
    rw [show pos + [x].length + r.length = pos + (x :: r).length by simp; omega, List.append_assoc]
    rfl
/-- A run from its first byte on. -/
theorem lexR_run (rest : List UInt8) (x : UInt8) (r : List UInt8) (pos : Nat) (st : RSt) (hx : runByte x = true) (hall : ∀ y ∈ r, moreByte y = true) (hr : st.run = none) (hm : st.remark = false) :
    lexR (runesOf (x :: r ++ rest)) pos st = lexR (runesOf rest) (pos + (x :: r).length) { st with run := some (pos, x :: r) } := by
  have hi : inR x.toNat st = true := by
    simp only [runByte] at hx
    simp only [inR]; rw [Bool.or_eq_true]; exact .inl hx
  have hrn : runeR pos x.toNat [x] st = (0, 0, { st with run := some (pos, [x]) }) := by
    rw [runeR, hi, hm]
    simp [growR, hr, hm]
  rw [List.cons_append, runesOf_ascii x _ (runByte_small hx), lexR, hrn]
  simp only [ne_eq, not_true_eq_false, if_false]
  rw [lexR_more rest r (pos + [x].length) pos [x] { st with run := some (pos, [x]) } hall rfl hm]
  rw [show pos + [x].length + r.length = pos + (x :: r).length by simp; omega]
  rfl
/-- A sign's runes. -/
theorem sign_runes : ∀ k : Fin 12, ∀ b : List UInt8, (Utf8.encode (signRunes.getD k.val 0 : Nat)).data.toList = b → (∃ x, b = [x] ∧ x.toNat = signRunes.getD k.val 0 ∧ x.toNat < 128) ∨ b = [226, 134, 144] ∧ signRunes.getD k.val 0 = 8592 ∨ b = [195, 151] ∧ signRunes.getD k.val 0 = 215 := by
  have h : ∀ k : Fin 12, (∃ x, (Utf8.encode (signRunes.getD k.val 0 : Nat)).data.toList = [x] ∧ x.toNat = signRunes.getD k.val 0 ∧ x.toNat < 128) ∨ (Utf8.encode (signRunes.getD k.val 0 : Nat)).data.toList = [226, 134, 144] ∧ signRunes.getD k.val 0 = 8592 ∨ (Utf8.encode (signRunes.getD k.val 0 : Nat)).data.toList = [195, 151] ∧ signRunes.getD k.val 0 = 215 := by
    intro k
    match k with
    | 0 => exact .inr (.inl (by decide +kernel))
    | 1 => exact .inl ⟨43, by decide +kernel⟩
    | 2 => exact .inl ⟨45, by decide +kernel⟩
    | 3 => exact .inr (.inr (by decide +kernel))
    | 4 => exact .inl ⟨37, by decide +kernel⟩
    | 5 => exact .inl ⟨61, by decide +kernel⟩
    | 6 => exact .inl ⟨60, by decide +kernel⟩
    | 7 => exact .inl ⟨91, by decide +kernel⟩
    | 8 => exact .inl ⟨93, by decide +kernel⟩
    | 9 => exact .inl ⟨58, by decide +kernel⟩
    | 10 => exact .inl ⟨36, by decide +kernel⟩
    | 11 => exact .inl ⟨44, by decide +kernel⟩
  intro k b hb
  rw [← hb]; exact h k
theorem runesOf_sign {c : Nat} (hc : isSign c = true) (rest : List UInt8) : runesOf ((Utf8.encode (c : Int)).data.toList ++ rest) = (c, (Utf8.encode (c : Int)).data.toList) :: runesOf rest := by
  obtain ⟨k, hk, rfl⟩ := isSign_mem.1 hc
  rcases sign_runes ⟨k, hk⟩ _ rfl with ⟨x, hx, h1, h2⟩ | ⟨hx, h1⟩ | ⟨hx, h1⟩
  · simp only at hx h1
    rw [hx, List.singleton_append, runesOf_ascii x rest h2, h1]
  · simp only at hx h1
    have hd : decodeL ([226, 134, 144] ++ rest) = (8592, 3) := by
      rw [Lib.decodeL_N]
      simp [decodeN]
    rw [hx, runesOf_cons (by simp), hd, h1]
    rfl
  · simp only at hx h1
    have hd : decodeL ([195, 151] ++ rest) = (215, 2) := by
      rw [Lib.decodeL_N]
      simp [decodeN]
    rw [hx, runesOf_cons (by simp), hd, h1]
    rfl
theorem sign_plain {c : Nat} (hc : isSign c = true) (st : RSt) (h : st.run = none) : inR c st = false ∧ c ≠ 10 ∧ ¬ (c = 32 ∨ c = 9 ∨ c = 13) ∧ c ≠ 35 := by
  obtain ⟨k, hk, rfl⟩ := isSign_mem.1 hc
  have hh : ∀ k : Fin 12, (isLetter (signRunes.getD k.val 0) || isDigit (signRunes.getD k.val 0)) = false ∧ signRunes.getD k.val 0 ≠ 10 ∧ ¬ (signRunes.getD k.val 0 = 32 ∨ signRunes.getD k.val 0 = 9 ∨ signRunes.getD k.val 0 = 13) ∧ signRunes.getD k.val 0 ≠ 35 := by decide +kernel
  obtain ⟨h1, h2, h3, h4⟩ := hh ⟨k, hk⟩
  refine ⟨?_, h2, h3, h4⟩
  simp only at h1
  rw [inR, h1, h]; simp
end Go.Proofs.YthdlihiehfkceaaDoor

namespace Go.Proofs.YthdlihiehfkceaaDoor
open Go.RowKit
set_option linter.unusedVariables false

/-- A token's numbers are of their kinds. -/
structure Tok.Ok (t : Tok) : Prop where
  kind : -9223372036854775808 ≤ t.kind ∧ t.kind ≤ 9223372036854775807
  text : t.text.size ≤ maxLen
  num : 0 ≤ t.num ∧ t.num ≤ 18446744073709551615
  at_ : -9223372036854775808 ≤ t.at_ ∧ t.at_ ≤ 9223372036854775807
  line : -9223372036854775808 ≤ t.line ∧ t.line ≤ 9223372036854775807
/-- What is printed of a word, a number, a sign. -/
def tokText (t : Tok) : List UInt8 := if t.kind = 1 then Lib.decDigits t.num.toNat else t.text.data.toList
def printGo : List Tok → Bool → List UInt8
  | [], _ => []
  | t :: r, fresh => if t.kind = 3 then 10 :: printGo r true
    else if t.kind < 0 ∨ 3 < t.kind then printGo r fresh
    else (if fresh then [] else [32]) ++ tokText t ++ printGo r false
/-- Tokens as text. -/
def printP (l : List Tok) : List UInt8 := printGo l true
theorem drop_at {l : List Tok} {k : Nat} {t : Tok} (h : l[k]? = some t) : l.drop k = t :: l.drop (k + 1) := by
  obtain ⟨hk, rfl⟩ := List.getElem?_eq_some_iff.1 h
  exact List.drop_eq_getElem_cons hk
theorem toList_inj {a b : ByteArray} (h : a.toList = b.toList) : a = b := by
  rw [ByteArray.toList_eq, ByteArray.toList_eq] at h
  cases a; cases b
  simp only at h
  congr 1
  exact Array.toList_inj.1 h
/-- Two lists' kinds, texts and numbers are the same. -/
def sameTok (x y : Tok) : Prop := x.kind = y.kind ∧ x.text = y.text ∧ x.num = y.num
instance (x y : Tok) : Decidable (sameTok x y) := by unfold sameTok; infer_instance
def sameP : List Tok → List Tok → Bool
  | [], [] => true
  | x :: l, y :: r => decide (sameTok x y) && sameP l r
  | _, _ => false
theorem sameP_refl (l : List Tok) : sameP l l = true := by
  induction l with
  | nil => rfl
  | cons x l ih => simp [sameP, sameTok, ih]
theorem sameP_len {l r : List Tok} (h : l.length ≠ r.length) : sameP l r = false := by
  induction l generalizing r with
  | nil => cases r with
    | nil => simp at h
    | cons y r => rfl
  | cons x l ih => cases r with
    | nil => rfl
    | cons y r => simp only [sameP]; rw [ih (by simpa using h)]; simp
theorem sameP_drop {l r : List Tok} {j : Nat} {x y : Tok} (hx : l[j]? = some x) (hy : r[j]? = some y) : sameP (l.drop j) (r.drop j) = (decide (sameTok x y) && sameP (l.drop (j + 1)) (r.drop (j + 1))) := by
  rw [drop_at hx, drop_at hy]; rfl

end Go.Proofs.YthdlihiehfkceaaDoor

namespace Go.Proofs.YthdlihiehfkceaaDoor
open Go.RowKit
open Go.Lib (decodeL decodeN)
set_option linter.unusedVariables false

/-- A run that is open, or a word's text. -/
def RunOk (w : List UInt8) : Prop := ∃ x r, w = x :: r ∧ runByte x = true ∧ ∀ y ∈ r, moreByte y = true
/-- A token's form. -/
def Form (t : Tok) : Prop :=
  (t.kind = 0 ∧ RunOk t.text.data.toList ∧ headR t.text.data.toList = false ∧ t.text.data.toList.length ≤ 24 ∧ t.num = 0) ∨
  (t.kind = 1 ∧ t.text = ⟨#[]⟩ ∧ ∃ u : Nat, u < 18446744073709551616 ∧ t.num = u) ∨
  (t.kind = 2 ∧ t.num = 0 ∧ ∃ c, isSign c = true ∧ t.text = Utf8.encode (c : Int)) ∨
  (t.kind = 3 ∧ t.text = ⟨#[]⟩ ∧ t.num = 0)

theorem dec_run (u : Nat) : RunOk (Lib.decDigits u) := by
  obtain ⟨c, r, he, _, _⟩ := dec_head u
  have hd := dec_digits u
  rw [he] at hd ⊢
  refine ⟨c, r, rfl, ?_, fun y hy => ?_⟩
  · simp [runByte, isDigit_of (hd c (by simp))]
  · simp [moreByte, runByte, isDigit_of (hd y (by simp [hy]))]
theorem dec_headR (u : Nat) : headR (Lib.decDigits u) = true := by
  obtain ⟨c, r, he, _, _⟩ := dec_head u
  have hd := dec_digits u
  rw [he] at hd ⊢
  exact isDigit_of (hd c (by simp))
theorem printGo_head {l : List Tok} (h : ∀ t ∈ l, Form t) : printGo l false = [] ∨ ∃ c r, printGo l false = c :: r ∧ (c = 10 ∨ c = 32 ∨ c = 9 ∨ c = 35) := by
  cases l with
  | nil => exact .inl rfl
  | cons t r =>
    right
    rw [printGo]
    by_cases h3 : t.kind = 3
    · rw [if_pos h3]; exact ⟨10, _, rfl, .inl rfl⟩
    · rw [if_neg h3]
      have hk : ¬ (t.kind < 0 ∨ 3 < t.kind) := by
        rcases h t (by simp) with h | h | h | h <;> have := h.1 <;> omega
      rw [if_neg hk]
      exact ⟨32, _, rfl, .inr (.inl rfl)⟩

/-- Same kinds, texts and numbers. -/
theorem relex : ∀ (l : List Tok) (fresh : Bool) (pos : Nat) (st : RSt), (∀ t ∈ l, Form t) → st.run = none → st.remark = false → st.list.length + l.length ≤ 16384 →
    ∃ l', sameP l' l = true ∧ lexR (runesOf (printGo l fresh)) pos st = (st.list ++ l', 0, 0)
  | [], fresh, pos, st, _, hr, _, _ => ⟨[], rfl, by
      show endR st = _
      rw [endR, shutR_none hr]; simp⟩
  | t :: r, fresh, pos, st, hf, hr, hm, hlen => by
    have hft := hf t (by simp)
    have hfr : ∀ t ∈ r, Form t := fun x hx => hf x (by simp [hx])
    rw [List.length_cons] at hlen
    by_cases h3 : t.kind = 3
    · rcases hft with h | h | h | h
      · have := h.1; omega
      · have := h.1; omega
      · have := h.1; omega
      obtain ⟨_, ht, hn⟩ := h
      rw [printGo, if_pos h3, runesOf_ascii 10 _ (by decide), lexR]
      have hi : inR 10 st = false := by simp [inR, isLetter, isDigit]
      have hrr : runeR pos (10 : UInt8).toNat [10] st = ((pos : Int), 0, { st with list := st.list ++ [⟨3, ⟨#[]⟩, 0, pos, st.line⟩], line := st.line + 1 }) := by
        show runeR pos 10 [10] st = _
        rw [runeR, hi, shutR_none hr]
        simp only [Bool.false_and, Bool.false_eq_true, if_false, ne_eq, not_true_eq_false]
        rw [restR, if_pos rfl, putR_ok _ (by show st.list.length < _; omega), hm]
      rw [hrr]
      simp only [ne_eq, not_true_eq_false, if_false]
      obtain ⟨l', hs, he⟩ := relex r true (pos + [10].length) { st with list := st.list ++ [⟨3, ⟨#[]⟩, 0, pos, st.line⟩], line := st.line + 1 } hfr hr hm (by simp; omega)
      refine ⟨⟨3, ⟨#[]⟩, 0, pos, st.line⟩ :: l', ?_, ?_⟩
      · simp only [sameP, hs, Bool.and_true, decide_eq_true_eq]
        exact ⟨h3.symm, ht.symm, hn.symm⟩
      · refine Eq.trans he ?_
        simp
    · have hk : ¬ (t.kind < 0 ∨ 3 < t.kind) := by
        rcases hft with h | h | h | h <;> have := h.1 <;> omega
      rw [printGo, if_neg h3, if_neg hk]
      have blank : ∀ (fresh : Bool) (X : List UInt8), ∃ pos', lexR (runesOf ((if fresh = true then [] else [32]) ++ X)) pos st = lexR (runesOf X) pos' st := by
        intro fresh X
        cases fresh
        · refine ⟨pos + [32].length, ?_⟩
          have hi : inR 32 st = false := by simp [inR, isLetter, isDigit]
          have hrr : runeR pos (32 : UInt8).toNat [32] st = (0, 0, st) := by
            show runeR pos 32 [32] st = _
            rw [runeR, hi, shutR_none hr]
            simp [restR]
          show lexR (runesOf (32 :: X)) pos st = _
          rw [runesOf_ascii 32 _ (by decide), lexR, hrr]
          simp
        · exact ⟨pos, rfl⟩
      rw [List.append_assoc]
      obtain ⟨p1, hp1⟩ := blank fresh (tokText t ++ printGo r false)
      rw [hp1]
      have finish : ∀ (x : Tok) (p2 : Nat), sameTok x t → ∃ l', sameP l' (t :: r) = true ∧ lexR (runesOf (printGo r false)) p2 { st with list := st.list ++ [x] } = (st.list ++ l', 0, 0) := by
        intro x p2 hx
        obtain ⟨l', hs, he⟩ := relex r false p2 { st with list := st.list ++ [x] } hfr hr hm (by simp; omega)
        refine ⟨x :: l', ?_, ?_⟩
        · simp only [sameP, hs, Bool.and_true, decide_eq_true_eq]; exact hx
        · refine Eq.trans he ?_
          simp
      have run : ∀ (w : List UInt8) (x : Tok), RunOk w → shutR { st with run := some (p1, w) } = ((p1 : Int), 0, { st with list := st.list ++ [x] }) → sameTok x t →
          ∃ l', sameP l' (t :: r) = true ∧ lexR (runesOf (w ++ printGo r false)) p1 st = (st.list ++ l', 0, 0) := by
        rintro w x ⟨y, z, rfl, hy, hz⟩ hsh hx
        rw [lexR_run _ y z p1 st hy hz hr hm, lexR_close (printGo_head hfr) (by rw [hsh]), hsh]
        exact finish x _ hx
      have hst : ({ st with run := none } : RSt) = st := by rw [← hr]
      rcases hft with h | h | h | h
      · obtain ⟨hk0, hro, hh, h24, hn⟩ := h
        have e : tokText t = t.text.data.toList := by rw [tokText, if_neg (by omega)]
        rw [e]
        refine run _ ⟨0, t.text, 0, p1, st.line⟩ hro ?_ ⟨hk0.symm, rfl, hn.symm⟩
        rw [shutR]
        simp only
        rw [hh, if_neg (by simp), if_neg (by omega), hst, putR_ok _ (by omega), mk_toList]
      · obtain ⟨hk1, ht, u, hu, hn⟩ := h
        have e : tokText t = Lib.decDigits u := by rw [tokText, if_pos hk1, hn]; simp
        rw [e]
        refine run _ ⟨1, ⟨#[]⟩, u, p1, st.line⟩ (dec_run u) ?_ ⟨hk1.symm, ht.symm, hn.symm⟩
        rw [shutR]
        simp only
        rw [dec_headR, if_pos rfl, numP_dec u hu]
        simp only
        rw [hst, putR_ok _ (by omega)]
      · obtain ⟨hk2, hn, c, hc, ht⟩ := h
        have e : tokText t = (Utf8.encode (c : Int)).data.toList := by rw [tokText, if_neg (by omega), ht]
        obtain ⟨s1, s2, s3, s4⟩ := sign_plain hc st hr
        rw [e, runesOf_sign hc, lexR]
        have hrr : ∀ b, runeR p1 c b st = ((p1 : Int), 0, { st with list := st.list ++ [⟨2, Utf8.encode (c : Int), 0, p1, st.line⟩] }) := by
          intro b
          rw [runeR, s1, shutR_none hr]
          simp only [Bool.false_and, Bool.false_eq_true, if_false, ne_eq, not_true_eq_false]
          have hb : ¬ (st.remark = true ∨ c = 32 ∨ c = 9 ∨ c = 13) := by
            rintro (h | h)
            · rw [hm] at h; cases h
            · exact s3 h
          have hlt : st.list.length < 16384 := by omega
          rw [restR, if_neg s2, if_neg hb, if_neg s4, if_pos hc, putR_ok _ hlt]
        rw [hrr]
        simp only [ne_eq, not_true_eq_false, if_false]
        have hx : sameTok ⟨2, Utf8.encode (c : Int), 0, p1, st.line⟩ t := by
          refine ⟨?_, ?_, ?_⟩
          · exact Eq.symm hk2
          · rw [ht]
          · exact Eq.symm hn
        exact finish _ _ hx
      · exact absurd h.1 h3
end Go.Proofs.YthdlihiehfkceaaDoor

namespace Go.Proofs.YthdlihiehfkceaaDoor
open Go.RowKit
open Go.Lib (decodeL decodeN)
set_option linter.unusedVariables false

theorem numGo_bound : ∀ (l : List UInt8) (n m : Nat), numGo l n = some m → n < 18446744073709551616 → m < 18446744073709551616
  | [], n, m, h, hn => by
    rw [numGo] at h
    injection h with h; omega
  | c :: r, n, m, h, hn => by
    rw [numGo] at h
    split at h
    · rename_i hd
      split at h
      · cases h
      · refine numGo_bound r _ m h ?_
        simp only [isDigit, decide_eq_true_eq] at hd
        omega
    · cases h
theorem numP_bound {l : List UInt8} {m : Nat} (h : numP l = some m) : m < 18446744073709551616 := by
  rw [numP] at h
  split at h
  · cases h
  · exact numGo_bound l 0 m h (by omega)
/-- What holds of the lexer's state behind N runes. -/
structure RInv (q : RSt) (N : Nat) : Prop where
  forms : ∀ t ∈ q.list, Form t
  run : ∀ a w, q.run = some (a, w) → RunOk w
  len : q.list.length + (if q.run.isSome then 1 else 0) ≤ N
theorem putR_inv {q : RSt} {N : Nat} {t : Tok} (h : RInv q N) (hr : q.run = none) (hf : ∀ k, Form { t with line := k }) : RInv (putR q t).2 (N + 1) := by
  have hl := h.len
  rw [hr] at hl
  simp at hl
  unfold putR
  split
  · exact ⟨h.forms, h.run, by rw [hr]; simp; omega⟩
  · refine ⟨fun x hx => ?_, fun a w e => (by rw [hr] at e; cases e), by rw [hr]; simp; omega⟩
    rcases List.mem_append.1 hx with hx | hx
    · exact h.forms x hx
    · obtain rfl := List.mem_singleton.1 hx
      exact hf _
theorem shutR_inv {q : RSt} {N : Nat} (h : RInv q N) : RInv (shutR q).2.2 N := by
  rcases hr : q.run with _ | ⟨a, w⟩
  · rw [shutR_none hr]; exact h
  · have hl := h.len
    rw [hr] at hl
    simp at hl
    obtain ⟨N, rfl⟩ : ∃ N', N = N' + 1 := ⟨N - 1, by omega⟩
    have hw := h.run a w hr
    have h0 : RInv { q with run := none } N := ⟨h.forms, fun _ _ e => (by cases e), by simp; omega⟩
    have h1 : RInv { q with run := none } (N + 1) := ⟨h.forms, fun _ _ e => (by cases e), by simp; omega⟩
    rw [shutR, hr]
    simp only
    by_cases hh : headR w = true
    · rw [if_pos hh]
      cases hn : numP w with
      | none => exact h1
      | some n => exact putR_inv h0 rfl (fun k => .inr (.inl ⟨rfl, rfl, n, numP_bound hn, rfl⟩))
    · rw [if_neg hh]
      by_cases h24 : 24 < w.length
      · rw [if_pos h24]; exact h1
      · rw [if_neg h24]
        have hwl : (⟨w.toArray⟩ : ByteArray).data.toList = w := by simp
        exact putR_inv h0 rfl (fun k => .inl ⟨rfl, by show RunOk (⟨w.toArray⟩ : ByteArray).data.toList; rw [hwl]; exact hw, by show headR (⟨w.toArray⟩ : ByteArray).data.toList = false; rw [hwl]; simpa using hh, by show (⟨w.toArray⟩ : ByteArray).data.toList.length ≤ 24; rw [hwl]; omega, rfl⟩)
theorem signForm {c : Nat} (hc : isSign c = true) (p k : Int) : Form { kind := 2, text := Utf8.encode (c : Int), num := 0, at_ := p, line := k } := by
  generalize he : Utf8.encode (c : Int) = e
  exact .inr (.inr (.inl ⟨rfl, rfl, c, hc, he.symm⟩))
/-- A rune below 128 is its one byte. -/
def Proper (x : Nat × List UInt8) : Prop := x.1 < 128 → ∃ y, x.2 = [y] ∧ y.toNat = x.1
theorem runesOf_proper : ∀ (n : Nat) (l : List UInt8), l.length ≤ n → ∀ x ∈ runesOf l, Proper x
  | 0, l, hn, x, hx => by
    obtain rfl : l = [] := List.eq_nil_of_length_eq_zero (by omega)
    simp [runesOf_nil] at hx
  | n + 1, l, hn, x, hx => by
    by_cases hl : l = []
    · subst hl; simp [runesOf_nil] at hx
    · have hp := decodeL_pos hl
      rw [runesOf_cons hl] at hx
      rcases List.mem_cons.1 hx with rfl | hx
      · intro h
        match l, hl with
        | y :: r, _ =>
          by_cases hy : y.toNat < 128
          · rw [Lib.decodeL_ascii y r hy]; exact ⟨y, rfl, rfl⟩
          · have hd := Lib.decodeL_drop (⟨(y :: r).toArray⟩ : ByteArray) 0
            have e : (⟨(y :: r).toArray⟩ : ByteArray).data.toList.drop 0 = y :: r := by simp
            rw [e] at hd
            have := (decode_high (⟨(y :: r).toArray⟩ : ByteArray) 0 (by show 0 < (y :: r).toArray.size; simp) (by show 128 ≤ y.toNat; omega)).1
            rw [← hd] at this
            simp only at h
            omega
      · exact runesOf_proper n _ (by rw [List.length_drop]; omega) x hx
theorem runesOf_length : ∀ (n : Nat) (l : List UInt8), l.length ≤ n → (runesOf l).length ≤ l.length
  | 0, l, hn => by
    obtain rfl : l = [] := List.eq_nil_of_length_eq_zero (by omega)
    simp [runesOf_nil]
  | n + 1, l, hn => by
    by_cases hl : l = []
    · subst hl; simp [runesOf_nil]
    · have hp := decodeL_pos hl
      have h0 : 0 < l.length := List.length_pos_iff.2 hl
      rw [runesOf_cons hl, List.length_cons]
      have := runesOf_length n (l.drop (decodeL l).2) (by rw [List.length_drop]; omega)
      rw [List.length_drop] at this
      omega
theorem runeR_inv {q : RSt} {N pos c : Nat} {b : List UInt8} (h : RInv q N) (hb : Proper (c, b)) : RInv (runeR pos c b q).2.2 (N + 1) := by
  have hs := shutR_inv h
  have hk := shutR_kept q
  have up : ∀ x : RSt, RInv x N → RInv x (N + 1) := fun x hx => ⟨hx.forms, hx.run, by have := hx.len; omega⟩
  rw [runeR]
  by_cases hi : (inR c q && !q.remark) = true
  · rw [if_pos hi]
    simp only [Bool.and_eq_true, inR, Bool.or_eq_true, isLetter, isDigit, decide_eq_true_eq, beq_iff_eq] at hi
    obtain ⟨y, hy, hyc⟩ := hb (by show c < 128; omega)
    simp only at hy hyc
    subst hy; subst hyc
    have hl := h.len
    refine ⟨h.forms, fun a w e => ?_, ?_⟩
    · rcases hr : q.run with _ | ⟨a0, w0⟩
      · simp only [growR, hr, Option.some.injEq, Prod.mk.injEq] at e
        obtain ⟨rfl, rfl⟩ := e
        refine ⟨y, [], rfl, ?_, fun z hz => by simp at hz⟩
        rw [hr] at hi
        simp only [runByte, isLetter, isDigit, Bool.or_eq_true, decide_eq_true_eq]
        simp at hi
        omega
      · simp only [growR, hr, Option.some.injEq, Prod.mk.injEq] at e
        obtain ⟨rfl, rfl⟩ := e
        obtain ⟨x, r, rfl, h1, h2⟩ := h.run a0 w0 hr
        refine ⟨x, r ++ [y], rfl, h1, fun z hz => ?_⟩
        rcases List.mem_append.1 hz with hz | hz
        · exact h2 z hz
        · obtain rfl := List.mem_singleton.1 hz
          simp only [moreByte, runByte, isLetter, isDigit, Bool.or_eq_true, decide_eq_true_eq, beq_iff_eq]
          rcases hi.1 with (h | h) | h
          · exact .inl (.inl h)
          · exact .inl (.inr h)
          · right
            apply UInt8.toNat_inj.1
            exact h.1
    · show q.list.length + _ ≤ _
      split at hl <;> split <;> omega
  · rw [if_neg hi]
    split
    · exact up _ hs
    · rw [restR]
      split
      · have := putR_inv (q := { (shutR q).2.2 with remark := false }) (t := { kind := 3, text := ⟨#[]⟩, num := 0, at_ := (pos : Int), line := 0 }) ⟨hs.forms, hs.run, hs.len⟩ hk.1 (fun k => .inr (.inr (.inr ⟨rfl, rfl, rfl⟩)))
        exact ⟨this.forms, this.run, this.len⟩
      · split
        · exact up _ hs
        · split
          · exact up _ ⟨hs.forms, hs.run, hs.len⟩
          · split
            · rename_i hsg
              refine putR_inv hs hk.1 (fun k => ?_)
              have hf := signForm hsg (pos : Int) k
              generalize Utf8.encode (c : Int) = e at hf ⊢
              exact hf
            · exact up _ hs
theorem lexR_forms : ∀ (x : List (Nat × List UInt8)) (pos N : Nat) (q : RSt), RInv q N → (∀ y ∈ x, Proper y) → (∀ t ∈ (lexR x pos q).1, Form t) ∧ (lexR x pos q).1.length ≤ N + x.length
  | [], pos, N, q, h, _ => by
    rw [lexR, endR]
    split
    · simp
    · have hs := shutR_inv h
      exact ⟨hs.forms, by have := hs.len; simp only [List.length_nil]; omega⟩
  | (c, b) :: r, pos, N, q, h, hx => by
    rw [lexR]
    split
    · simp
    · have := lexR_forms r (pos + b.length) (N + 1) _ (runeR_inv (pos := pos) h (hx (c, b) (by simp))) (fun y hy => hx y (by simp [hy]))
      exact ⟨this.1, by have := this.2; rw [List.length_cons]; omega⟩
end Go.Proofs.YthdlihiehfkceaaDoor

namespace Go.Proofs.YthdlihiehfkceaaDoor
open Go.RowKit
open Go.Lib (decodeL decodeN)
set_option linter.unusedVariables false

theorem sameP_length : ∀ {l r : List Tok}, sameP l r = true → l.length = r.length
  | [], [], _ => rfl
  | [], _ :: _, h => by cases h
  | _ :: _, [], h => by cases h
  | _ :: l, _ :: r, h => by
    simp only [sameP, Bool.and_eq_true] at h
    rw [List.length_cons, List.length_cons, sameP_length h.2]
theorem printGo_same : ∀ {l r : List Tok} (fr : Bool), sameP l r = true → printGo l fr = printGo r fr
  | [], [], _, _ => rfl
  | [], _ :: _, _, h => by cases h
  | _ :: _, [], _, h => by cases h
  | x :: l, y :: r, fr, h => by
    simp only [sameP, Bool.and_eq_true, decide_eq_true_eq] at h
    obtain ⟨⟨h1, h2, h3⟩, hs⟩ := h
    have ht : tokText x = tokText y := by rw [tokText, tokText, h1, h2, h3]
    rw [printGo, printGo, h1, ht, printGo_same true hs, printGo_same false hs, printGo_same fr hs]
theorem form_num {t : Tok} (h : Form t) : 0 ≤ t.num ∧ t.num ≤ 18446744073709551615 := by
  rcases h with h | h | h | h
  · rw [h.2.2.2.2]; omega
  · obtain ⟨_, _, u, hu, he⟩ := h
    rw [he]; omega
  · rw [h.2.1]; omega
  · rw [h.2.2]; omega
theorem sign_len {c : Nat} (hc : isSign c = true) : (Utf8.encode (c : Int)).data.toList.length ≤ 3 := by
  obtain ⟨k, hk, rfl⟩ := isSign_mem.1 hc
  rcases sign_runes ⟨k, hk⟩ _ rfl with ⟨x, hx, _⟩ | ⟨hx, _⟩ | ⟨hx, _⟩ <;> simp only at hx <;> rw [hx] <;> simp
theorem form_text {t : Tok} (h : Form t) : (tokText t).length ≤ 24 := by
  rcases h with h | h | h | h
  · rw [tokText, if_neg (by omega)]; exact h.2.2.2.1
  · obtain ⟨hk, _, u, hu, he⟩ := h
    rw [tokText, if_pos hk, he, Int.toNat_natCast, Lib.decDigits_length]
    have := Lib.nDigits_le20 u hu
    omega
  · obtain ⟨hk, _, c, hc, he⟩ := h
    rw [tokText, if_neg (by omega), he]
    have := sign_len hc
    omega
  · rw [tokText, if_neg (by omega), h.2.1]; simp
theorem printGo_len2 (B : Nat) (l : List Tok) (fr : Bool) (h : ∀ t ∈ l, (tokText t).length ≤ B) : (printGo l fr).length ≤ l.length * (B + 1) := by
  induction l generalizing fr with
  | nil => simp [printGo]
  | cons t r ih =>
    have hr := fun fr => ih fr (fun x hx => h x (List.mem_cons_of_mem _ hx))
    have ht := h t (by simp)
    rw [printGo, List.length_cons, Nat.add_mul]
    split
    · have := hr true; rw [List.length_cons]; omega
    · split
      · have := hr fr; omega
      · have := hr false
        rw [List.length_append, List.length_append]
        have : (if fr = true then [] else [32] : List UInt8).length ≤ 1 := by split <;> simp
        omega
/-- What a lex hands back: forms, and no more tokens than bytes. -/
theorem lexP_forms (s : ByteArray) (hs : s.size ≤ 65536) : (∀ t ∈ (lexP s).1, Form t) ∧ (lexP s).1.length ≤ s.size := by
  rw [lexP_R s hs]
  have h := lexR_forms (runesOf s.data.toList) 0 0 r0 ⟨fun t ht => by simp [r0] at ht, fun a w e => (by cases e), by simp [r0]⟩ (runesOf_proper _ _ (Nat.le_refl _))
  have h2 := runesOf_length _ s.data.toList (Nat.le_refl _)
  exact ⟨h.1, by have h3 := h.2; have : s.data.toList.length = s.size := rfl; omega⟩
def textOf (l : List Tok) : ByteArray := ⟨(printP l).toArray⟩
theorem textOf_list (l : List Tok) : (textOf l).data.toList = printP l := by simp [textOf]
theorem back_plain (l : List Tok) (hf : ∀ t ∈ l, Form t) (hlen : l.length ≤ 600) : (printP l).length ≤ 15000 ∧ ∃ l', lexP (textOf l) = (l', 0, 0) ∧ sameP l' l = true ∧ printP l' = printP l ∧ l'.length = l.length ∧ (∀ t ∈ l', 0 ≤ t.num ∧ t.num ≤ 18446744073709551615) := by
  have hp := printGo_len2 24 l true (fun t ht => form_text (hf t ht))
  have hp' : (printP l).length ≤ 15000 := by show (printGo l true).length ≤ _; omega
  have hsz : (textOf l).size ≤ 65536 := by
    show (printP l).toArray.size ≤ _
    rw [List.size_toArray]; omega
  obtain ⟨l', hs, he⟩ := relex l true 0 r0 hf rfl rfl (by show 0 + _ ≤ _; omega)
  have hL : lexP (textOf l) = (l', 0, 0) := by
    rw [lexP_R _ hsz, textOf_list]
    exact he
  have hF := (lexP_forms (textOf l) hsz).1
  rw [hL] at hF
  exact ⟨hp', l', hL, hs, printGo_same true hs, sameP_length hs, fun t ht => form_num (hF t ht)⟩
end Go.Proofs.YthdlihiehfkceaaDoor

namespace Go.Proofs.YthdlihiehfkceaaDoor
open Go.RowKit Go.Maps Go.WideMaps
set_option linter.unusedVariables false

theorem ba_len (E : ByteArray) : E.data.toList.length = E.size := rfl
theorem form_size {t : Tok} (h : Form t) : t.text.size ≤ 24 := by
  rcases h with ⟨_, _, _, h, _⟩ | ⟨_, h, _⟩ | ⟨_, _, c, hc, h⟩ | ⟨_, h, _⟩
  · rw [← ba_len]; exact h
  · have h2 := congrArg ByteArray.size h
    have h3 : t.text.size = 0 := h2
    omega
  · have h3 := sign_len hc
    have h4 := congrArg ByteArray.size h
    rw [ba_len] at h3
    omega
  · have h2 := congrArg ByteArray.size h
    have h3 : t.text.size = 0 := h2
    omega
theorem linesGo_mem : ∀ {l cur : List Tok} {ln : List Tok}, ln ∈ linesGo l cur → ∀ t ∈ ln, t ∈ cur ∨ t ∈ l
  | [], cur, ln, h, t, ht => by
    rw [linesGo] at h
    split at h
    · cases h
    · obtain rfl := List.mem_singleton.1 h; exact .inl ht
  | x :: l, cur, ln, h, t, ht => by
    rw [linesGo] at h
    split at h
    · rcases List.mem_cons.1 h with rfl | h
      · exact .inl ht
      · rcases linesGo_mem h t ht with h | h
        · cases h
        · exact .inr (List.mem_cons_of_mem _ h)
    · rcases linesGo_mem h t ht with h | h
      · rcases List.mem_append.1 h with h | h
        · exact .inl h
        · obtain rfl := List.mem_singleton.1 h; exact .inr (List.mem_cons_self ..)
      · exact .inr (List.mem_cons_of_mem _ h)
theorem linesGo_le : ∀ (l cur : List Tok), (linesGo l cur).length ≤ l.length + 1
  | [], cur => by rw [linesGo]; split <;> simp
  | x :: l, cur => by
    rw [linesGo]
    split
    · have := linesGo_le l []; simp; omega
    · have := linesGo_le l (cur ++ [x]); simp; omega
/-- The lines that are not empty. -/
def fullL (L : List (List Tok)) : List (List Tok) := L.filter fun l => !l.isEmpty
theorem readGo_full : ∀ (L : List (List Tok)) (p : Prg), readGo L p = readGo (fullL L) p
  | [], p => rfl
  | [] :: L, p => by
    have : fullL ([] :: L) = fullL L := rfl
    rw [this, readGo, if_pos rfl]; exact readGo_full L p
  | (t :: l) :: L, p => by
    have : fullL ((t :: l) :: L) = (t :: l) :: fullL L := rfl
    rw [this, readGo, readGo, if_neg (by simp), if_neg (by simp)]
    split
    · rfl
    · split
      · rfl
      · exact readGo_full L _
theorem fullL_mem {L : List (List Tok)} {l : List Tok} (h : l ∈ fullL L) : l ∈ L ∧ l ≠ [] := by
  obtain ⟨h1, h2⟩ := List.mem_filter.1 h
  exact ⟨h1, by cases l <;> simp at h2 ⊢⟩
theorem fullL_len (L : List (List Tok)) : (fullL L).length ≤ L.length := List.length_filter_le ..
theorem fullL_take {L : List (List Tok)} {n : Nat} {ln : List Tok} (h : L[n]? = some ln) : fullL (L.take (n + 1)) = fullL (L.take n) ++ (if ln = [] then [] else [ln]) := by
  unfold fullL
  rw [List.take_add_one, h]
  cases ln <;> simp
theorem takeP_name (c : Nat) (t : Tok) (o : Ord) : (takeP c t o).1.name = o.name ∨ (takeP c t o).1.name = t.text := by
  unfold takeP
  simp only
  repeat' split
  all_goals first | exact .inl rfl | exact .inr rfl
theorem matchGo_name : ∀ {f : List Nat} {l : List Tok} {o o' : Ord}, matchGo f l o = some o' → o.name.size ≤ 24 → (∀ t ∈ l, t.text.size ≤ 24) → o'.name.size ≤ 24
  | [], l, o, o', h, ho, hl => by
    rw [matchGo] at h
    split at h
    · injection h with h; subst h; exact ho
    · cases h
  | c :: f, [], o, o', h, ho, hl => by rw [matchGo] at h; cases h
  | c :: f, t :: l, o, o', h, ho, hl => by
    rw [matchGo] at h
    split at h
    · refine matchGo_name h ?_ (fun t ht => hl t (List.mem_cons_of_mem _ ht))
      rcases takeP_name c t o with e | e
      · rw [e]; exact ho
      · rw [e]; exact hl t (List.mem_cons_self ..)
    · cases h
theorem opsGo_name : ∀ {f k : Nat} {l : List Tok} {o : Ord}, opsGo l f k = some o → (∀ t ∈ l, t.text.size ≤ 24) → o.name.size ≤ 24
  | 0, k, l, o, h, hl => by rw [opsGo] at h; cases h
  | f + 1, k, l, o, h, hl => by
    rw [opsGo] at h
    split at h
    · rename_i o' hm
      injection h with h
      subst h
      exact matchGo_name hm (by show (⟨#[]⟩ : ByteArray).size ≤ 24; exact Nat.zero_le _) hl
    · exact opsGo_name h hl
theorem isMark_text {l : List Tok} {s : ByteArray} {a : Int} (h : isMark l = some (s, a)) : ∃ t ∈ l, t.text = s := by
  unfold isMark at h
  split at h
  · split at h
    · injection h with h; injection h with h _
      exact ⟨_, List.mem_cons_self .., h⟩
    · cases h
  · cases h
theorem parse_mark {l : List Tok} {s : ByteArray} {a : Int} (h : parseP l = some (.mark s a)) (hl : ∀ t ∈ l, t.text.size ≤ 24) : s.size ≤ 24 := by
  unfold parseP at h
  split at h
  · rename_i s' a' hm
    injection h with h; injection h with h1 h2
    subst h1
    obtain ⟨t, ht, rfl⟩ := isMark_text hm
    exact hl t ht
  · cases ho : opsGo l 22 0 with
    | none => rw [ho] at h; cases h
    | some o => rw [ho] at h; cases h
theorem parse_order {l : List Tok} {o : Ord} (h : parseP l = some (.order o)) (hl : ∀ t ∈ l, t.text.size ≤ 24) : o.name.size ≤ 24 := by
  unfold parseP at h
  split at h
  · injection h with h; cases h
  · cases ho : opsGo l 22 0 with
    | none => rw [ho] at h; cases h
    | some o' => rw [ho] at h; injection h with h; injection h with h; subst h; exact opsGo_name ho hl

/-- A program's bounds while it is read. -/
structure POk (p : Prg) (k : Nat) : Prop where
  ord : p.orders.length ≤ 256
  lab : p.labels.length ≤ k
  at_ : ∀ s q, p.find s = some q → q ≤ 256
  nam : ∀ o ∈ p.orders, o.name.size ≤ maxLen
theorem POk.init : POk ⟨[], []⟩ 0 := ⟨Nat.zero_le _, Nat.zero_le _, (fun s q h => by cases h), (fun o h => by cases h)⟩
theorem POk.add {p : Prg} {k : Nat} (h : POk p k) {l : List Tok} {x : Lin} (hx : parseP l = some x) (hl : ∀ t ∈ l, t.text.size ≤ 24) : POk (addP p x).1 (k + 1) := by
  cases x with
  | mark s a =>
    unfold addP
    simp only
    split
    · exact ⟨h.ord, Nat.le_succ_of_le h.lab, h.at_, h.nam⟩
    · rename_i hn
      refine ⟨h.ord, by simp; exact h.lab, fun t q hq => ?_, h.nam⟩
      rw [find_snoc p.orders p.labels s t _ (by simpa using hn)] at hq
      split at hq
      · injection hq with hq; have := h.ord; omega
      · exact h.at_ t q hq
  | order o =>
    unfold addP
    simp only
    split
    · exact ⟨h.ord, Nat.le_succ_of_le h.lab, h.at_, h.nam⟩
    · rename_i hn
      refine ⟨by simp; omega, Nat.le_succ_of_le h.lab, h.at_, fun o' ho => ?_⟩
      rcases List.mem_append.1 ho with ho | ho
      · exact h.nam o' ho
      · obtain rfl := List.mem_singleton.1 ho
        have := parse_order hx hl
        unfold maxLen; omega

theorem PFrm.own {B g ma : Nat} {w w' : World} (h : PFrm B g ma w w') {base size n : Nat} {e : TypeId} {v : Value} {xs : List Value} (ho : w.ownsRow base e size v n xs) (hv : ∀ k, v.ownBlock = some k → k < B ∧ k ≠ g ∧ k ≠ ma) : w'.ownsRow base e size v n xs := by
  refine ⟨ho.1, ?_⟩
  rcases ho.2 with h0 | ⟨b, cap, cur, rfl, hb, hc, rest⟩
  · exact .inl h0
  · obtain ⟨h1, h2, h3⟩ := hv b rfl
    exact .inr ⟨b, cap, cur, rfl, hb, (h.block b h1 h2 h3).trans hc, rest⟩
theorem PFrm.toBelow {B g ma n : Nat} {w w' : World} (h : PFrm B g ma w w') (hB : n ≤ B) (hg : n ≤ g) (hm : n ≤ ma) : Below n w w' :=
  ⟨h.os, h.tape, h.output, h.size, fun i hi => h.block i (by omega) (by omega) (by omega)⟩
theorem PFrm.of_below {B g ma : Nat} {w w' w'' : World} (h : PFrm B g ma w' w'') (hb : Below w.heap.size w w') (hB : B ≤ w.heap.size) : PFrm B g ma w w'' :=
  ⟨h.os.trans hb.os, h.tape.trans hb.tape, h.output.trans hb.output, Nat.le_trans hb.size h.size, fun i h1 h2 h3 => (h.block i h1 h2 h3).trans (hb.block i (by omega))⟩
theorem PrgIn.below {w w' : World} {B g ma : Nat} {p : Prg} (h : PrgIn w B g ma p) (hb : Below w.heap.size w w') (hB : B ≤ w.heap.size) : PrgIn w' B g ma p := by
  obtain ⟨v, D, h1, h2, h3, h4, h5, h6, h7⟩ := h
  exact ⟨v, D, h1.below hb h1.lt, h2.kept (grown_of_below hb) (own_not _), h3.kept (grown_of_below hb) (by simp), h4, h5, h6, h7⟩
/-- Lines of tokens, each in a slice of its own. -/
def LnsOf (ls : List (List Tok)) (n₀ : Nat) (kp : List SlV) (W : World) : Prop := kp.length = ls.length ∧ ∀ (i : Nat) (x : SlV) (ln : List Tok), kp[i]? = some x → ls[i]? = some ln → W.ownsRow n₀ 58 5 x.1 ln.length (tokCells ln)
theorem LnsOf.kept {ls : List (List Tok)} {n₀ : Nat} {kp : List SlV} {W W' : World} {row : Option Nat} (h : LnsOf ls n₀ kp W) (hg : W.grownBy W' row) (hr : ∀ g cs fz, row = some g → W.heap[g]? = some (.cells cs 58 fz) → False) : LnsOf ls n₀ kp W' := by
  refine ⟨h.1, fun i x ln hx hl => ?_⟩
  have h2 := h.2 i x ln hx hl
  refine h2.kept hg ?_
  cases hv : x.1.ownBlock with
  | none => exact .inl rfl
  | some b =>
    refine .inr fun e2 => ?_
    obtain ⟨c, fz, hb⟩ := own_row h2 hv
    exact hr b c fz e2.symm hb
theorem LnsOf.snoc {ls : List (List Tok)} {n₀ : Nat} {kp : List SlV} {W : World} (h : LnsOf ls n₀ kp W) {x : SlV} {ln : List Tok} (hx : W.ownsRow n₀ 58 5 x.1 ln.length (tokCells ln)) : LnsOf (ls ++ [ln]) n₀ (kp ++ [x]) W := by
  refine ⟨by rw [List.length_append, List.length_append, h.1]; rfl, fun i y l hy hl => ?_⟩
  have hlen := h.1
  by_cases hi : i < kp.length
  · rw [List.getElem?_append_left hi] at hy
    rw [List.getElem?_append_left (by omega)] at hl
    exact h.2 i y l hy hl
  · rw [List.getElem?_append_right (by omega)] at hy
    rw [List.getElem?_append_right (by omega)] at hl
    have hi0 : i - kp.length = 0 := by
      by_cases h0 : i - kp.length = 0
      · exact h0
      · rw [List.getElem?_eq_none (by simp; omega)] at hy; cases hy
    rw [hi0] at hy
    rw [show i - ls.length = 0 by omega] at hl
    obtain rfl : x = y := by simpa using hy
    obtain rfl : ln = l := by simpa using hl
    exact hx
theorem lnsOf_own (B n₀ : Nat) (ls : List (List Tok)) : OwnFrom B (fun kp W => LnsOf ls n₀ kp W) := fun kp W W' row h hg hr => h.kept hg (fun g c fz e hc => by
  obtain ⟨_, o, ho, hcl⟩ := hr g e
  rw [hc] at ho; cases ho; cases hcl)
/-- What the first loop has gathered of the lines that came. -/
def Gath (L : List (List Tok)) (n₀ box : Nat) (pre : List SlV) (W : World) : Prop :=
  ∃ (kp : List SlV) (v : Value), LnsOf (fullL (L.take pre.length)) n₀ kp W ∧ Boxed W box 72 v ∧ W.ownsRow n₀ 56 1 v kp.length (kp.map (·.1))
theorem gath_own (B : Nat) (L : List (List Tok)) (n₀ box : Nat) : OwnFrom B (Gath L n₀ box) := by
  rintro pre W W' row ⟨kp, v, h1, h2, h3⟩ hg hr
  exact ⟨kp, v, lnsOf_own B n₀ _ kp W W' row h1 hg hr, boxed_own (β := Unit) box _ (fun _ => v) () W W' row h2 hg (fun r e => (hr r e).2), row_others h3 hg (fun r e => (hr r e).2)⟩
def AsmPost (s : ByteArray) (w : World) (e : Ending) (w' : World) : Prop :=
  ∃ v, e = .returned (.tuple #[v, .int .i64 (asmP s).2.1, .int .i64 (asmP s).2.2]) ∧ w'.ownsRow w.heap.size 35 5 v (asmP s).1.length (insCells (asmP s).1) ∧ Below w.heap.size w w'
theorem AsmPost.bad {s : ByteArray} {w w' : World} {a e : Int} (h : asmP s = ([], a, e)) (hb : Below w.heap.size w w') : AsmPost s w (.returned (.tuple #[.slice none 0 0, .int .i64 a, .int .i64 e])) w' := by
  unfold AsmPost
  rw [h]
  exact ⟨.slice none 0 0, rfl, World.ownsRow_nil _ _ _ _, hb⟩
end Go.Proofs.YthdlihiehfkceaaDoor
