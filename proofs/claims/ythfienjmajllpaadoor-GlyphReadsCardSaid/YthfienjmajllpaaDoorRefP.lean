/-
  Chapter 2, plain: the reference's lexer, token by token; each step of it is the lexer's.
-/
import Derived.Test.YthfienjmajllpaaDoorPlaceP
import Derived.Test.YthfienjmajllpaaDoorJoinQ
namespace Go.Proofs.YthfienjmajllpaaDoor
open Go.RowKit
open Go.Lib (decodeL decodeN)
set_option linter.unusedVariables false

def tok0 : Tok := ⟨0, ⟨#[]⟩, 0, 0, 0⟩
def runLen : List UInt8 → Nat
  | [] => 0
  | x :: r => if runByte x then 1 + (r.takeWhile moreByte).length else 0
def oneP (w : List UInt8) (at_ line : Int) : Tok × Int :=
  if headR w then match numP w with
    | none => (tok0, 22)
    | some n => (⟨1, ⟨#[]⟩, n, at_, line⟩, 0)
  else if 24 < w.length then (tok0, 21) else (⟨0, ⟨w.toArray⟩, 0, at_, line⟩, 0)
def signTexts : List (List UInt8) := [[226, 134, 144], [43], [45], [195, 151], [37], [61], [60], [91], [93], [58], [36], [44]]
def signB (b : List UInt8) : Bool := signTexts.contains b
def restP (c : UInt8) (r : List UInt8) (at_ line : Int) : Tok × Bool × Nat × Int :=
  if c = 10 then (⟨3, ⟨#[]⟩, 0, at_, line⟩, true, 1, 0)
  else if c = 32 ∨ c = 9 ∨ c = 13 then (tok0, false, 1, 0)
  else if c = 35 then (tok0, false, 1 + (r.takeWhile (fun x => x != 10)).length, 0)
  else if signB ((c :: r).take (decodeL (c :: r)).2) then (⟨2, ⟨((c :: r).take (decodeL (c :: r)).2).toArray⟩, 0, at_, line⟩, true, (decodeL (c :: r)).2, 0)
  else (tok0, false, (decodeL (c :: r)).2, 20)
def nextP (rest : List UInt8) (at_ line : Int) : Tok × Bool × Nat × Int :=
  if 0 < runLen rest then ((oneP (rest.take (runLen rest)) at_ line).1, (oneP (rest.take (runLen rest)) at_ line).2 == 0, runLen rest, (oneP (rest.take (runLen rest)) at_ line).2)
  else match rest with
  | [] => (tok0, false, 0, 0)
  | c :: r => restP c r at_ line
def stepQ (q : RSt) (t : Tok) (is : Bool) : RSt := if is then { q with list := q.list ++ [t], line := if t.kind = 3 then q.line + 1 else q.line } else q

theorem rune_head (y : UInt8) (r : List UInt8) : (y.toNat < 128 → decodeL (y :: r) = (y.toNat, 1)) ∧ (¬ y.toNat < 128 → 128 ≤ (decodeL (y :: r)).1) := by
  refine ⟨fun h => Lib.decodeL_ascii y r h, fun h => ?_⟩
  have hd := Lib.decodeL_drop (⟨(y :: r).toArray⟩ : ByteArray) 0
  have e : (⟨(y :: r).toArray⟩ : ByteArray).data.toList.drop 0 = y :: r := by simp
  rw [e] at hd
  have := (decode_high (⟨(y :: r).toArray⟩ : ByteArray) 0 (by show 0 < (y :: r).toArray.size; simp) (by show 128 ≤ y.toNat; omega)).1
  rwa [← hd] at this
/-- A byte that stands in no run: nor does its rune. -/
theorem notIn {y : UInt8} {r : List UInt8} {st : RSt} (h : runByte y = false) (h46 : y = 46 → st.run = none) : inR (decodeL (y :: r)).1 st = false := by
  obtain ⟨h1, h2⟩ := rune_head y r
  by_cases hs : y.toNat < 128
  · rw [h1 hs]
    simp only [runByte] at h
    simp only [inR, h, Bool.false_or]
    by_cases hy : y = 46
    · rw [h46 hy]; simp
    · have : y.toNat ≠ 46 := fun e => hy (UInt8.toNat_inj.1 e)
      simp [this]
  · have := h2 hs
    simp only [inR, isLetter, isDigit, Bool.or_eq_false_iff, Bool.and_eq_false_iff, decide_eq_false_iff_not, beq_eq_false_iff_ne]
    exact ⟨⟨by omega, by omega⟩, .inl (by omega)⟩
theorem closeAny {rest : List UInt8} {pos : Nat} {st : RSt} (h : rest = [] ∨ ∃ y r, rest = y :: r ∧ moreByte y = false) :
    lexR (runesOf rest) pos st = if (shutR st).2.1 ≠ 0 then ([], (shutR st).1, (shutR st).2.1) else lexR (runesOf rest) pos (shutR st).2.2 := by
  rcases h with rfl | ⟨y, r, rfl, hy⟩
  · by_cases he : (shutR st).2.1 ≠ 0
    · rw [if_pos he]
      show endR st = _
      rw [endR, if_pos he]
    · rw [if_neg he]
      exact endR_shut (Decidable.not_not.1 he)
  · simp only [moreByte, Bool.or_eq_false_iff, beq_eq_false_iff_ne] at hy
    have hi : inR (decodeL (y :: r)).1 st = false := notIn hy.1 (fun e => absurd e hy.2)
    rw [runesOf_cons (by simp), lexR]
    by_cases he : (shutR st).2.1 ≠ 0
    · have hr : ∀ b, runeR pos (decodeL (y :: r)).1 b st = shutR st := fun b => by rw [runeR, hi]; simp [he]
      rw [if_pos he, hr, if_pos he]
    · rw [if_neg he, runeR_shut (.inl hi) (Decidable.not_not.1 he)]
      rw [lexR]
theorem dropWhile_head {p : UInt8 → Bool} : ∀ (l : List UInt8), l.dropWhile p = [] ∨ ∃ y r, l.dropWhile p = y :: r ∧ p y = false
  | [] => .inl rfl
  | x :: l => by
    by_cases h : p x = true
    · rw [List.dropWhile_cons_of_pos h]; exact dropWhile_head l
    · rw [List.dropWhile_cons_of_neg h]; exact .inr ⟨x, l, rfl, by simpa using h⟩
theorem takeWhile_all {p : UInt8 → Bool} : ∀ (l : List UInt8), ∀ y ∈ l.takeWhile p, p y = true
  | [], y, h => by simp at h
  | x :: l, y, h => by
    by_cases hx : p x = true
    · rw [List.takeWhile_cons_of_pos hx] at h
      rcases List.mem_cons.1 h with rfl | h
      · exact hx
      · exact takeWhile_all l y h
    · rw [List.takeWhile_cons_of_neg hx] at h; simp at h
theorem take_tw (p : UInt8 → Bool) (r : List UInt8) : r.take (r.takeWhile p).length = r.takeWhile p := by
  have h := List.takeWhile_append_dropWhile (p := p) (l := r)
  have h2 : (r.takeWhile p ++ r.dropWhile p).take (r.takeWhile p).length = r.takeWhile p := List.take_left
  rwa [h] at h2
theorem drop_tw (p : UInt8 → Bool) (r : List UInt8) : r.drop (r.takeWhile p).length = r.dropWhile p := by
  have h := List.takeWhile_append_dropWhile (p := p) (l := r)
  have h2 : (r.takeWhile p ++ r.dropWhile p).drop (r.takeWhile p).length = r.dropWhile p := List.drop_left
  rwa [h] at h2
theorem sign_in : ∀ k : Fin 12, ∀ b : List UInt8, (Utf8.encode (signRunes.getD k.val 0 : Nat)).data.toList = b → signB b = true := by
  have h : ∀ k : Fin 12, signB (Utf8.encode (signRunes.getD k.val 0 : Nat)).data.toList = true := by decide +kernel
  intro k b hb
  rw [← hb]; exact h k
theorem take_head {c x : UInt8} {r t : List UInt8} {n : Nat} (h : (c :: r).take n = x :: t) : c = x ∧ r.take (n - 1) = t := by
  cases n with
  | zero => simp at h
  | succ n => simpa using h
theorem signB_is (c : UInt8) (r : List UInt8) : signB ((c :: r).take (decodeL (c :: r)).2) = isSign (decodeL (c :: r)).1 := by
  cases hs : isSign (decodeL (c :: r)).1
  · cases hb : signB ((c :: r).take (decodeL (c :: r)).2)
    · rfl
    · exfalso
      have one : ∀ x : UInt8, (c :: r).take (decodeL (c :: r)).2 = [x] → x.toNat < 128 → isSign x.toNat = true → False := by
        intro x hx h1 h2
        obtain ⟨rfl, _⟩ := take_head hx
        rw [Lib.decodeL_ascii c r h1] at hs
        rw [h2] at hs; cases hs
      simp only [signB, signTexts, List.contains_eq_mem, List.mem_cons, List.not_mem_nil, or_false, decide_eq_true_eq] at hb
      rcases hb with hb | hb | hb | hb | hb | hb | hb | hb | hb | hb | hb | hb
      · obtain ⟨rfl, h2⟩ := take_head hb
        rcases r with _ | ⟨c2, r⟩
        · simp at h2
        obtain ⟨rfl, h3⟩ := take_head h2
        rcases r with _ | ⟨c3, r⟩
        · simp at h3
        obtain ⟨rfl, _⟩ := take_head h3
        have hd : decodeL (226 :: 134 :: 144 :: r) = (8592, 3) := by
          rw [Lib.decodeL_N]
          simp [decodeN]
        rw [hd] at hs
        exact absurd hs (by decide)
      · exact one 43 hb (by decide) (by decide)
      · exact one 45 hb (by decide) (by decide)
      · obtain ⟨rfl, h2⟩ := take_head hb
        rcases r with _ | ⟨c2, r⟩
        · simp at h2
        obtain ⟨rfl, h3⟩ := take_head h2
        have hd : decodeL (195 :: 151 :: r) = (215, 2) := by
          rw [Lib.decodeL_N]
          simp [decodeN]
        rw [hd] at hs
        exact absurd hs (by decide)
      all_goals first | exact one _ hb (by decide) (by decide)
  · have hf := runesOf_fits _ (c :: r) (Nat.le_refl _) ((decodeL (c :: r)).1, (c :: r).take (decodeL (c :: r)).2) (by rw [runesOf_cons (by simp)]; simp)
    have hb := hf.2.2 hs
    simp only at hb
    rw [hb]
    obtain ⟨k, hk, hc⟩ := isSign_mem.1 hs
    obtain ⟨z, hz⟩ : ∃ z, signRunes.getD (⟨k, hk⟩ : Fin 12).val 0 = z := ⟨_, rfl⟩
    have hsi := sign_in ⟨k, hk⟩
    rw [hz] at hsi
    have hz2 : z = (decodeL (c :: r)).1 := by rw [← hz]; exact hc
    rw [← hz2]
    exact hsi _ rfl
theorem shut_one {q : RSt} {pos : Nat} {w : List UInt8} (hr : q.run = none) (hl : q.list.length < 16384) :
    ((oneP w pos q.line).2 ≠ 0 → (shutR { q with run := some (pos, w) }).2.1 = (oneP w pos q.line).2 ∧ (shutR { q with run := some (pos, w) }).1 = pos) ∧
    ((oneP w pos q.line).2 = 0 → (shutR { q with run := some (pos, w) }).2.1 = 0 ∧ (shutR { q with run := some (pos, w) }).2.2 = stepQ q (oneP w pos q.line).1 true) := by
  obtain ⟨list, line, run, remark⟩ := q
  simp only at hr hl ⊢
  subst hr
  unfold shutR oneP
  simp only
  by_cases hh : headR w = true
  · rw [if_pos hh, if_pos hh]
    cases hn : numP w with
    | none => exact ⟨fun _ => ⟨rfl, rfl⟩, fun h => absurd h (show (22 : Int) ≠ 0 by decide)⟩
    | some n =>
      refine ⟨fun h => absurd rfl h, fun _ => ?_⟩
      simp only
      rw [putR_ok _ (by exact hl)]
      exact ⟨rfl, rfl⟩
  · rw [if_neg hh, if_neg hh]
    by_cases h24 : 24 < w.length
    · rw [if_pos h24, if_pos h24]
      exact ⟨fun _ => ⟨rfl, rfl⟩, fun h => absurd h (show (21 : Int) ≠ 0 by decide)⟩
    · rw [if_neg h24, if_neg h24]
      refine ⟨fun h => absurd rfl h, fun _ => ?_⟩
      rw [putR_ok _ (by exact hl)]
      exact ⟨rfl, rfl⟩
/-- One step of the reference's lexer. -/
theorem next_step {rest : List UInt8} {pos : Nat} {q : RSt} (hne : rest ≠ []) (hr : q.run = none) (hm : q.remark = false) (hl : q.list.length < 16384) {t : Tok} {is : Bool} {n : Nat} {e : Int} (hN : nextP rest pos q.line = (t, is, n, e)) :
    1 ≤ n ∧ n ≤ rest.length ∧ (e ≠ 0 → lexR (runesOf rest) pos q = ([], (pos : Int), e)) ∧ (e = 0 → lexR (runesOf rest) pos q = lexR (runesOf (rest.drop n)) (pos + n) (stepQ q t is)) ∧ (is = true → e = 0) := by
  rcases rest with _ | ⟨c, r⟩
  · exact absurd rfl hne
  unfold nextP at hN
  by_cases hrun : runByte c = true
  · have hlen : runLen (c :: r) = 1 + (r.takeWhile moreByte).length := by rw [runLen, if_pos hrun]
    have hw : (c :: r).take (runLen (c :: r)) = c :: r.takeWhile moreByte := by
      rw [hlen, Nat.add_comm, List.take_succ_cons, take_tw]
    have hd : (c :: r).drop (runLen (c :: r)) = r.dropWhile moreByte := by
      rw [hlen, Nat.add_comm, List.drop_succ_cons, drop_tw]
    have hle : (r.takeWhile moreByte).length ≤ r.length := by
      have := congrArg List.length (List.takeWhile_append_dropWhile (p := moreByte) (l := r))
      rw [List.length_append] at this; omega
    rw [if_pos (by rw [hlen]; omega), hw] at hN
    injection hN with h1 h2
    injection h2 with h2 h3
    injection h3 with h3 h4
    subst h1; subst h2; subst h3; subst h4
    have hsplit : lexR (runesOf (c :: r)) pos q = lexR (runesOf (r.dropWhile moreByte)) (pos + (c :: r.takeWhile moreByte).length) { q with run := some (pos, c :: r.takeWhile moreByte) } := by
      conv => lhs; rw [← List.takeWhile_append_dropWhile (p := moreByte) (l := r)]
      rw [← List.cons_append]
      exact lexR_run _ c _ pos q hrun (takeWhile_all r) hr hm
    have hc := closeAny (pos := pos + (c :: r.takeWhile moreByte).length) (st := { q with run := some (pos, c :: r.takeWhile moreByte) }) (dropWhile_head (p := moreByte) r)
    have hso := shut_one (pos := pos) (w := c :: r.takeWhile moreByte) hr hl
    refine ⟨by omega, by rw [List.length_cons]; omega, fun he => ?_, fun he => ?_, fun h => by simpa using h⟩
    · obtain ⟨g1, g2⟩ := hso.1 he
      rw [hsplit, hc, g1, if_pos he, g2]
    · obtain ⟨g1, g2⟩ := hso.2 he
      rw [hsplit, hc, g1, if_neg (by simp), g2, hd, he]
      simp only [List.length_cons, beq_self_eq_true]
      rw [hlen, Nat.add_comm 1]
  · have hrun' : runByte c = false := by simpa using hrun
    have h0 : ¬ 0 < runLen (c :: r) := by rw [runLen, if_neg hrun]; omega
    rw [if_neg h0] at hN
    simp only at hN
    have hcons : runesOf (c :: r) = ((decodeL (c :: r)).1, (c :: r).take (decodeL (c :: r)).2) :: runesOf ((c :: r).drop (decodeL (c :: r)).2) := runesOf_cons (by simp)
    have hi : inR (decodeL (c :: r)).1 q = false := notIn hrun' (fun _ => hr)
    have hk1 := decodeL_pos (l := c :: r) (by simp)
    have hk2 := Lib.decodeL_le (c :: r) (by simp)
    obtain ⟨ha1, ha2⟩ := rune_head c r
    have hrune : ∀ b, runeR pos (decodeL (c :: r)).1 b q = restR pos (decodeL (c :: r)).1 q := fun b => by
      rw [runeR, hi, shutR_none hr]; simp
    have hval : ∀ m : Nat, m < 128 → ((decodeL (c :: r)).1 = m ↔ c.toNat = m) := by
      intro m hm'
      by_cases hs : c.toNat < 128
      · rw [ha1 hs]
      · have := ha2 hs
        constructor <;> intro h <;> omega
    have hbyte : ∀ m : UInt8, c = m ↔ c.toNat = m.toNat := fun m => ⟨fun h => by rw [h], fun h => UInt8.toNat_inj.1 h⟩
    unfold restP at hN
    by_cases h10 : c = 10
    · subst h10
      have hd : decodeL (10 :: r) = (10, 1) := ha1 (by decide)
      rw [if_pos rfl] at hN
      injection hN with h1 h2
      injection h2 with h2 h3
      injection h3 with h3 h4
      subst h1; subst h2; subst h3; subst h4
      refine ⟨Nat.le_refl _, by simp, fun h => absurd rfl h, fun _ => ?_, fun _ => rfl⟩
      rw [hcons, lexR, hrune, hd, restR, if_pos rfl, putR_ok _ (by exact hl)]
      simp only [ne_eq, not_true_eq_false, if_false]
      obtain ⟨list, line, run, remark⟩ := q
      simp only at hr hm
      subst hr; subst hm
      rfl
    rw [if_neg h10] at hN
    have g10 : (decodeL (c :: r)).1 ≠ 10 := fun e => h10 ((hbyte 10).2 ((hval 10 (by decide)).1 e))
    by_cases hbl : c = 32 ∨ c = 9 ∨ c = 13
    · rw [if_pos hbl] at hN
      injection hN with h1 h2
      injection h2 with h2 h3
      injection h3 with h3 h4
      subst h1; subst h2; subst h3; subst h4
      have hs : c.toNat < 128 := by rcases hbl with rfl | rfl | rfl <;> decide
      have hd : decodeL (c :: r) = (c.toNat, 1) := ha1 hs
      have gbl : c.toNat = 32 ∨ c.toNat = 9 ∨ c.toNat = 13 := by rcases hbl with rfl | rfl | rfl <;> simp
      rw [hd] at g10
      refine ⟨Nat.le_refl _, by simp, fun h => absurd rfl h, fun _ => ?_, fun h => by cases h⟩
      have hres : restR pos c.toNat q = (0, 0, q) := by rw [restR, if_neg g10, if_pos (.inr gbl)]
      rw [hcons, lexR, hrune, hd]
      simp only [hres, ne_eq, not_true_eq_false, if_false]
      rfl
    rw [if_neg hbl] at hN
    have gbl : ¬ ((decodeL (c :: r)).1 = 32 ∨ (decodeL (c :: r)).1 = 9 ∨ (decodeL (c :: r)).1 = 13) := by
      rintro (e | e | e)
      · exact hbl (.inl ((hbyte 32).2 ((hval 32 (by decide)).1 e)))
      · exact hbl (.inr (.inl ((hbyte 9).2 ((hval 9 (by decide)).1 e))))
      · exact hbl (.inr (.inr ((hbyte 13).2 ((hval 13 (by decide)).1 e))))
    by_cases h35 : c = 35
    · subst h35
      rw [if_pos rfl] at hN
      injection hN with h1 h2
      injection h2 with h2 h3
      injection h3 with h3 h4
      subst h1; subst h2; subst h3; subst h4
      have hle : (r.takeWhile (fun x => x != 10)).length ≤ r.length := by
        have := congrArg List.length (List.takeWhile_append_dropWhile (p := fun x : UInt8 => x != 10) (l := r))
        rw [List.length_append] at this; omega
      refine ⟨by omega, by rw [List.length_cons]; omega, fun h => absurd rfl h, fun _ => ?_, fun h => by cases h⟩
      have hd : decodeL (35 :: r) = (35, 1) := ha1 (by decide)
      have h35r : restR pos 35 q = (0, 0, { q with remark := true }) := by
        rw [restR, if_neg (by decide), if_neg (by rw [hm]; simp), if_pos rfl]
      rw [hcons, lexR, hrune, hd]
      simp only
      rw [h35r]
      simp only [ne_eq, not_true_eq_false, if_false, List.drop_succ_cons, List.drop_zero, List.take_succ_cons, List.take_zero, List.length_cons, List.length_nil]
      have hdd : (35 :: r).drop (1 + (r.takeWhile (fun x => x != 10)).length) = r.dropWhile (fun x => x != 10) := by
        rw [Nat.add_comm, List.drop_succ_cons, drop_tw]
      rw [hdd]
      have hhead : plainHead (r.dropWhile (fun x => x != 10)) ∧ (r.dropWhile (fun x => x != 10) = [] ∨ ∃ r', r.dropWhile (fun x => x != 10) = 10 :: r') := by
        rcases dropWhile_head (p := fun x : UInt8 => x != 10) r with h | ⟨y, r', h, hy⟩
        · exact ⟨.inl h, .inl h⟩
        · obtain rfl : y = 10 := by simpa using hy
          exact ⟨.inr ⟨10, r', h, by decide⟩, .inr ⟨r', h⟩⟩
      conv => lhs; rw [← List.takeWhile_append_dropWhile (p := fun x : UInt8 => x != 10) (l := r)]
      rw [runesOf_append _ hhead.1 _ _ (Nat.le_refl _), pass_remark _ _ _ { q with remark := true } (runes_no10 _ _ (Nat.le_refl _) (fun x hx => by simpa using takeWhile_all r x hx)) hr rfl, bytesOf_runes _ _ (Nat.le_refl _)]
      rw [show stepQ q tok0 false = q from rfl, show pos + (1 + (r.takeWhile (fun x => x != 10)).length) = pos + (0 + 1) + (r.takeWhile (fun x => x != 10)).length by omega]
      obtain ⟨list, line, run, remark⟩ := q
      simp only at hr hm
      subst hr; subst hm
      rcases hhead.2 with h | ⟨r', h⟩
      · rw [h]; rfl
      · rw [h, runesOf_ascii 10 r' (by decide)]
        simp only [lexR]
        have hx : ∀ p, runeR p (10 : UInt8).toNat [10] { list := list, line := line, run := none, remark := true } = runeR p (10 : UInt8).toNat [10] { list := list, line := line, run := none, remark := false } := by
          intro p
          show runeR p 10 [10] _ = runeR p 10 [10] _
          rw [runeR, runeR, shutR_none rfl, shutR_none rfl]
          simp [inR, isLetter, isDigit, restR]
        rw [hx]
    rw [if_neg h35] at hN
    have g35 : (decodeL (c :: r)).1 ≠ 35 := fun e => h35 ((hbyte 35).2 ((hval 35 (by decide)).1 e))
    rw [signB_is] at hN
    have hlen : ((c :: r).take (decodeL (c :: r)).2).length = (decodeL (c :: r)).2 := by rw [List.length_take]; omega
    cases hsg : isSign (decodeL (c :: r)).1
    · rw [hsg, if_neg (by simp)] at hN
      injection hN with h1 h2
      injection h2 with h2 h3
      injection h3 with h3 h4
      subst h1; subst h2; subst h3; subst h4
      refine ⟨hk1, hk2, fun _ => ?_, fun h => absurd h (by decide), fun h => by cases h⟩
      have hres : restR pos (decodeL (c :: r)).1 q = ((pos : Int), 20, q) := by rw [restR, if_neg g10, if_neg (by rw [hm]; simpa using gbl), if_neg g35, hsg, if_neg (by simp)]
      rw [hcons, lexR, hrune, hres, if_pos (show (20 : Int) ≠ 0 by decide)]
    · rw [hsg, if_pos rfl] at hN
      have hf := runesOf_fits _ (c :: r) (Nat.le_refl _) ((decodeL (c :: r)).1, (c :: r).take (decodeL (c :: r)).2) (by rw [hcons]; simp)
      have hb := hf.2.2 hsg
      simp only at hb
      injection hN with h1 h2
      injection h2 with h2 h3
      injection h3 with h3 h4
      subst h1; subst h2; subst h3; subst h4
      refine ⟨hk1, hk2, fun h => absurd rfl h, fun _ => ?_, fun _ => rfl⟩
      have hbx : (⟨((c :: r).take (decodeL (c :: r)).2).toArray⟩ : ByteArray) = Utf8.encode ((decodeL (c :: r)).1 : Int) := (congrArg (fun l : List UInt8 => (⟨l.toArray⟩ : ByteArray)) hb).trans (mk_toList _)
      have hres : restR pos (decodeL (c :: r)).1 q = ((pos : Int), putR q ⟨2, Utf8.encode ((decodeL (c :: r)).1 : Int), 0, pos, 0⟩) := by
        rw [restR, if_neg g10, if_neg (by rw [hm]; simpa using gbl), if_neg g35, hsg, if_pos rfl]
      rw [hcons, lexR, hrune, hres, hlen, hbx]
      generalize Utf8.encode ((decodeL (c :: r)).1 : Int) = enc
      rw [putR_ok _ hl]
      simp only [ne_eq, not_true_eq_false, if_false]
      rfl
end Go.Proofs.YthfienjmajllpaaDoor
