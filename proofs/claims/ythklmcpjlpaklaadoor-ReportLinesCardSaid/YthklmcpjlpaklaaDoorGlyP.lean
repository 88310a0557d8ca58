/-
  Chapter 2, plain: tokens, the lexer as the program has it, rune by rune, lines, text. No program in sight.
-/
import Derived.Test.YthklmcpjlpaklaaDoorOwn
import Derived.Laws.Runes
namespace Go.Proofs.YthklmcpjlpaklaaDoor
open Go.RowKit
set_option linter.unusedVariables false

/-- A token. -/
structure Tok where
  kind : Int
  text : ByteArray
  num : Int
  at_ : Int
  line : Int
theorem Tok.ext_ {i j : Tok} (h : i.kind = j.kind ∧ i.text = j.text ∧ i.num = j.num ∧ i.at_ = j.at_ ∧ i.line = j.line) : i = j := by
  cases i; cases j; simp_all
instance : DecidableEq Tok := fun i j =>
  if h : i.kind = j.kind ∧ i.text = j.text ∧ i.num = j.num ∧ i.at_ = j.at_ ∧ i.line = j.line then isTrue (Tok.ext_ h) else isFalse (fun e => h (by subst e; exact ⟨rfl, rfl, rfl, rfl, rfl⟩))
def Tok.cells (t : Tok) : List Value := [.int .i64 t.kind, .string t.text, .int .u64 t.num, .int .i64 t.at_, .int .i64 t.line]
def tokCells (l : List Tok) : List Value := l.flatMap Tok.cells
theorem tokCells_append (l r : List Tok) : tokCells (l ++ r) = tokCells l ++ tokCells r := by simp [tokCells]
theorem tokCells_one (l : List Tok) : ∀ u ∈ tokCells l, u.oneCell' = true := by
  intro u hu
  obtain ⟨i, _, h⟩ := List.mem_flatMap.1 hu
  simp [Tok.cells] at h
  rcases h with rfl | rfl | rfl | rfl | rfl <;> rfl
theorem flat_get {α : Type} (cells : α → List Value) {size : Nat} (hc : ∀ y, (cells y).length = size) : ∀ (l : List α) (k j : Nat) (y : α), l[k]? = some y → j < size → (l.flatMap cells)[k * size + j]? = (cells y)[j]?
  | [], k, j, y, h, _ => by simp at h
  | x :: l, 0, j, y, h, hj => by
    obtain rfl : x = y := by simpa using h
    rw [List.flatMap_cons, Nat.zero_mul, Nat.zero_add, List.getElem?_append_left (by rw [hc]; exact hj)]
  | x :: l, k + 1, j, y, h, hj => by
    rw [List.flatMap_cons, List.getElem?_append_right (by rw [hc, Nat.add_mul]; omega), hc]
    have e : (k + 1) * size + j - size = k * size + j := by rw [Nat.add_mul]; omega
    rw [e]
    exact flat_get cells hc l k j y (by simpa using h) hj
theorem flat_length {α : Type} (cells : α → List Value) {size : Nat} (hc : ∀ y, (cells y).length = size) (l : List α) : (l.flatMap cells).length = l.length * size := by
  induction l with
  | nil => simp
  | cons y l ih => rw [List.flatMap_cons, List.length_append, hc, ih, List.length_cons, Nat.add_mul]; omega
theorem tokCells_length (l : List Tok) : (tokCells l).length = l.length * 5 := flat_length Tok.cells (fun _ => rfl) l
/-- A slice of tokens that is read. -/
abbrev RdT (w : World) (B : Nat) (A : Option Addr) (n : Nat) (l : List Tok) : Prop := Rd w B 5 A n (tokCells l)
theorem Rd.tokLen {w : World} {B n : Nat} {A : Option Addr} {l : List Tok} (h : RdT w B A n l) : l.length = n := by
  have := h.len; rw [tokCells_length] at this; omega
theorem Rd.tokAt {w : World} {B n : Nat} {A : Option Addr} {l : List Tok} (h : RdT w B A n l) {k : Nat} (hk : k < n) :
    ∃ b o t, A = some ⟨b, o, none⟩ ∧ b < B ∧ l[k]? = some t ∧ w.cell? ⟨b, o + k * 5, none⟩ = some (.int .i64 t.kind) ∧ w.cell? ⟨b, o + k * 5 + 1, none⟩ = some (.string t.text) ∧
      w.cell? ⟨b, o + k * 5 + 2, none⟩ = some (.int .u64 t.num) ∧ w.cell? ⟨b, o + k * 5 + 3, none⟩ = some (.int .i64 t.at_) ∧ w.cell? ⟨b, o + k * 5 + 4, none⟩ = some (.int .i64 t.line) := by
  obtain ⟨b, o, e, hb, hc⟩ := h.at_ (by omega)
  have hl : k < l.length := by rw [h.tokLen]; exact hk
  have hy := List.getElem?_eq_getElem hl
  have hf := fun j hj => flat_get Tok.cells (size := 5) (fun _ => rfl) l k j _ hy hj
  refine ⟨b, o, l[k]'hl, e, hb, hy, ?_, ?_, ?_, ?_, ?_⟩
  · exact hc (k * 5) _ (by rw [← Nat.add_zero (k * 5)]; exact hf 0 (by omega))
  · exact hc (k * 5 + 1) _ (hf 1 (by omega))
  · exact hc (k * 5 + 2) _ (hf 2 (by omega))
  · exact hc (k * 5 + 3) _ (hf 3 (by omega))
  · exact hc (k * 5 + 4) _ (hf 4 (by omega))

def isDigit (c : Nat) : Bool := decide (48 ≤ c ∧ c ≤ 57)
def isLetter (c : Nat) : Bool := decide ((97 ≤ c ∧ c ≤ 122) ∨ (65 ≤ c ∧ c ≤ 90) ∨ c = 95)
def signRunes : List Nat := [8592, 43, 45, 215, 37, 61, 60, 91, 93, 58, 36, 44]
def isSign (c : Nat) : Bool := signRunes.contains c
/-- A run's number, digit by digit. -/
def numGo : List UInt8 → Nat → Option Nat
  | [], n => some n
  | c :: r, n => if isDigit c.toNat then (if (18446744073709551615 - (c.toNat - 48)) / 10 < n then none else numGo r (10 * n + (c.toNat - 48))) else none
def numP (l : List UInt8) : Option Nat := if 1 < l.length ∧ l[0]? = some 48 then none else numGo l 0

/-- What has been read: the tokens, the line, from where on a run stands (-1: none), whether a remark is read. -/
structure LSt where
  list : List Tok
  line : Nat
  from_ : Option Nat
  remark : Bool
def LSt.fromI (st : LSt) : Int := match st.from_ with
  | some k => (k : Int)
  | none => -1
def putP (st : LSt) (t : Tok) : Int × LSt := if 16384 ≤ st.list.length then (3, st) else (0, { st with list := st.list ++ [{ t with line := st.line }] })
def headIs (w : ByteArray) : Bool := match w.data.toList with
  | c :: _ => isDigit c.toNat
  | [] => false
def shutP (s : ByteArray) (to : Nat) (st : LSt) : Int × Int × LSt := match st.from_ with
  | none => (0, 0, st)
  | some a =>
    let w := s.extract a to
    let st1 : LSt := { st with from_ := none }
    if headIs w then match numP w.data.toList with
      | none => (a, 22, st1)
      | some n => ((a : Int), putP st1 { kind := 1, text := ⟨#[]⟩, num := n, at_ := a, line := 0 })
    else if 24 < w.size then (a, 21, st1) else ((a : Int), putP st1 { kind := 0, text := w, num := 0, at_ := a, line := 0 })
def runeP (s : ByteArray) (at_ c : Nat) (st : LSt) : Int × Int × LSt :=
  if (isLetter c || isDigit c || (c == 46 && st.from_.isSome)) && !st.remark then (0, 0, if st.from_.isSome then st else { st with from_ := some at_ })
  else match shutP s at_ st with
    | (p, e, st1) => if e ≠ 0 then (p, e, st1)
      else if c = 10 then match putP { st1 with remark := false } { kind := 3, text := ⟨#[]⟩, num := 0, at_ := at_, line := 0 } with
        | (e, st2) => (at_, e, { st2 with line := st2.line + 1 })
      else if st1.remark ∨ c = 32 ∨ c = 9 ∨ c = 13 then (0, 0, st1)
      else if c = 35 then (0, 0, { st1 with remark := true })
      else if isSign c then ((at_ : Int), putP st1 { kind := 2, text := Utf8.encode (c : Int), num := 0, at_ := at_, line := 0 })
      else (at_, 20, st1)
def lexGo (s : ByteArray) : Nat → Nat → LSt → List Tok × Int × Int
  | 0, _, _ => ([], 0, 0)
  | f + 1, pos, st => if pos < s.size then match runeP s pos (Utf8.decode s pos).1 st with
      | (p, e, st1) => if e ≠ 0 then ([], p, e) else lexGo s f (pos + (Utf8.decode s pos).2) st1
    else match shutP s s.size st with
      | (p, e, st1) => if e ≠ 0 then ([], p, e) else (st1.list, 0, 0)
/-- A text's tokens, the place of the fault, the error's number. -/
def lexP (s : ByteArray) : List Tok × Int × Int := if 65536 < s.size then ([], 0, 2) else lexGo s (s.size + 1) 0 { list := [], line := 0, from_ := none, remark := false }

/-- Lines of tokens, and what is left. -/
def linesGo : List Tok → List Tok → List (List Tok)
  | [], line => if line = [] then [] else [line]
  | t :: r, line => if t.kind = 3 then line :: linesGo r [] else linesGo r (line ++ [t])
def linesP (l : List Tok) : List (List Tok) := linesGo l []
end Go.Proofs.YthklmcpjlpaklaaDoor
