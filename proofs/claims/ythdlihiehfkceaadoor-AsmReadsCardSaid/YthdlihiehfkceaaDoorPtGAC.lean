/-
  Texts of one proof, joined (wip/gen/pack.py): LexL, PlaceP, JoinP2, LexE, JoinQ, RefP.
-/
import Derived.Test.YthdlihiehfkceaaDoorPtBAA
import Derived.Test.YthdlihiehfkceaaDoorPtAE
namespace Go.Proofs.YthdlihiehfkceaaDoor
open Go.RowKit
open Go.Lib (decodeL decodeN)
set_option linter.unusedVariables false

/-- The open run began ahead of here. -/
def Begun (q : RSt) (pos : Nat) : Prop := ∀ a w, q.run = some (a, w) → a < pos
theorem shutR_place {q : RSt} {pos : Nat} (h : Begun q pos) (he : (shutR q).2.1 ≠ 0) : 0 ≤ (shutR q).1 ∧ (shutR q).1 < (pos : Int) := by
  unfold shutR at he ⊢
  rcases hr : q.run with _ | ⟨a, w⟩
  · rw [hr] at he; exact absurd rfl he
  · have ha := h a w hr
    simp only
    split
    · split
      · simp only; omega
      · simp only; omega
    · split
      · simp only; omega
      · simp only; omega
theorem runeR_place {q : RSt} {pos c : Nat} {b : List UInt8} (h : Begun q pos) (hb : 1 ≤ b.length) :
    ((runeR pos c b q).2.1 ≠ 0 → 0 ≤ (runeR pos c b q).1 ∧ (runeR pos c b q).1 < ((pos + b.length : Nat) : Int)) ∧ Begun (runeR pos c b q).2.2 (pos + b.length) := by
  have hk := shutR_kept q
  rw [runeR]
  split
  · refine ⟨fun e => absurd rfl e, fun a w e => ?_⟩
    simp only [growR] at e
    rcases hr : q.run with _ | ⟨a', w'⟩
    · rw [hr] at e; simp only [Option.some.injEq, Prod.mk.injEq] at e; omega
    · rw [hr] at e
      simp only [Option.some.injEq, Prod.mk.injEq] at e
      have := h a' w' hr
      omega
  · split
    · rename_i he
      have := shutR_place h he
      refine ⟨fun _ => ⟨this.1, by omega⟩, fun a w e => ?_⟩
      rw [hk.1] at e; cases e
    · have hn : ∀ z : RSt, z.run = none → Begun z (pos + b.length) := fun z hz a w e => by rw [hz] at e; cases e
      unfold restR
      split
      · exact ⟨fun _ => by simp only; omega, hn _ (by simp only [putR_run]; exact hk.1)⟩
      · split
        · exact ⟨fun e => absurd rfl e, hn _ hk.1⟩
        · split
          · exact ⟨fun e => absurd rfl e, hn _ hk.1⟩
          · split
            · exact ⟨fun _ => by simp only; omega, hn _ (by simp only [putR_run]; exact hk.1)⟩
            · exact ⟨fun _ => by simp only; omega, hn _ hk.1⟩
theorem bytesOf_cons (y : Nat × List UInt8) (x : List (Nat × List UInt8)) : bytesOf (y :: x) = y.2.length + bytesOf x := by simp [bytesOf]
theorem lexR_place : ∀ (x : List (Nat × List UInt8)) (pos : Nat) (q : RSt), (∀ y ∈ x, 1 ≤ y.2.length) → Begun q pos → (lexR x pos q).2.2 ≠ 0 → 0 ≤ (lexR x pos q).2.1 ∧ (lexR x pos q).2.1 < ((pos + bytesOf x : Nat) : Int)
  | [], pos, q, _, hq, he => by
    rw [lexR, endR] at he ⊢
    by_cases h : (shutR q).2.1 ≠ 0
    · rw [if_pos h]
      exact shutR_place hq h
    · rw [if_neg h] at he; exact absurd rfl he
  | (c, b) :: r, pos, q, hx, hq, he => by
    have hb : 1 ≤ b.length := hx (c, b) (by simp)
    have hr := runeR_place (c := c) hq hb
    rw [lexR] at he ⊢
    rw [bytesOf_cons]
    by_cases h : (runeR pos c b q).2.1 ≠ 0
    · rw [if_pos h]
      have := hr.1 h
      simp only
      omega
    · rw [if_neg h] at he ⊢
      have := lexR_place r (pos + b.length) _ (fun y hy => hx y (by simp [hy])) hr.2 he
      refine ⟨this.1, ?_⟩
      have h2 := this.2
      simp only
      omega
theorem runesOf_some : ∀ (n : Nat) (l : List UInt8), l.length ≤ n → ∀ x ∈ runesOf l, 1 ≤ x.2.length
  | 0, l, hn, x, hx => by
    obtain rfl : l = [] := List.eq_nil_of_length_eq_zero (by omega)
    simp [runesOf_nil] at hx
  | n + 1, l, hn, x, hx => by
    by_cases hl : l = []
    · subst hl; simp [runesOf_nil] at hx
    · have hp := decodeL_pos hl
      have h0 : 0 < l.length := List.length_pos_iff.2 hl
      rw [runesOf_cons hl] at hx
      rcases List.mem_cons.1 hx with rfl | hx
      · simp only [List.length_take]; omega
      · exact runesOf_some n _ (by rw [List.length_drop]; omega) x hx
theorem lexP_place {s : ByteArray} {l : List Tok} {p e : Int} (h : lexP s = (l, p, e)) (hs : s.size ≤ 65536) (he : e ≠ 0) : 0 ≤ p ∧ p < (s.size : Int) := by
  rw [lexP_R s hs] at h
  have h1 := lexR_place (runesOf s.data.toList) 0 r0 (runesOf_some _ _ (Nat.le_refl _)) (fun a w e => by simp [r0] at e) (by rw [h]; exact he)
  rw [h, bytesOf_runes _ _ (Nat.le_refl _)] at h1
  have h2 : s.data.toList.length = s.size := rfl
  rw [Nat.zero_add, h2] at h1
  exact h1
end Go.Proofs.YthdlihiehfkceaaDoor

namespace Go.Proofs.YthdlihiehfkceaaDoor
open Go.RowKit
open Go.Lib (decodeL decodeN)
set_option linter.unusedVariables false

theorem numGo_inv : ∀ (l : List UInt8) (m n : Nat), numGo l m = some n → 0 < m → Lib.decDigits n = Lib.decDigits m ++ l
  | [], m, n, h, hm => by
    rw [numGo] at h
    injection h with h
    rw [h, List.append_nil]
  | c :: r, m, n, h, hm => by
    rw [numGo] at h
    split at h
    · rename_i hd
      simp only [isDigit, decide_eq_true_eq] at hd
      split at h
      · cases h
      · rw [numGo_inv r _ n h (by omega), Lib.decDigits, dif_neg (by omega), show (10 * m + (c.toNat - 48)) / 10 = m by omega, show 48 + (10 * m + (c.toNat - 48)) % 10 = c.toNat by omega, UInt8.ofNat_toNat, List.append_assoc]
        rfl
    · cases h
/-- A run that is a number's numeral is that number's digits. -/
theorem numP_inv {w : List UInt8} {n : Nat} (h : numP w = some n) (hw : w ≠ []) : Lib.decDigits n = w := by
  rcases w with _ | ⟨c, r⟩
  · exact absurd rfl hw
  · rw [numP] at h
    split at h
    · cases h
    · rename_i h48
      rw [numGo] at h
      split at h
      · rename_i hd
        simp only [isDigit, decide_eq_true_eq] at hd
        split at h
        · cases h
        · rw [Nat.mul_zero, Nat.zero_add] at h
          have hc : Lib.decDigits (c.toNat - 48) = [c] := by
            rw [Lib.decDigits, dif_pos (by omega), show 48 + (c.toNat - 48) = c.toNat by omega, UInt8.ofNat_toNat]
          rcases r with _ | ⟨c2, r⟩
          · rw [numGo] at h
            injection h with h
            rw [← h, hc]
          · have h0 : 0 < c.toNat - 48 := by
              have : c ≠ 48 := fun e => h48 ⟨by simp, by rw [e]; rfl⟩
              have h2 : c.toNat ≠ 48 := fun e => this (UInt8.toNat_inj.1 e)
              omega
            rw [numGo_inv _ _ n h h0, hc]
            rfl
      · cases h
theorem print_end {t : Tok} (h : t.kind = 3) : printP [t] = [10] := by simp [printP, printGo, h]
theorem print_text {t : Tok} (h : t.kind = 0 ∨ t.kind = 2) : printP [t] = t.text.data.toList := by
  rcases h with h | h <;> simp [printP, printGo, tokText, h]
theorem print_number {t : Tok} (h : t.kind = 1) : printP [t] = Lib.decDigits t.num.toNat := by simp [printP, printGo, tokText, h]

/-- The tokens stand in L one behind the other, from a place and a line on. -/
def okT (L : List UInt8) : List Tok → Nat → Nat → Prop
  | [], _, _ => True
  | t :: r, last, line => (∃ pre post, t.at_ = (pre.length : Nat) ∧ last ≤ pre.length ∧ t.line = (line : Nat) ∧ printP [t] ≠ [] ∧ L = pre ++ printP [t] ++ post) ∧
      okT L r (t.at_.toNat + (printP [t]).length) (if t.kind = 3 then line + 1 else line)
def lastT : List Tok → Nat → Nat
  | [], k => k
  | t :: r, k => lastT r (t.at_.toNat + (printP [t]).length)
def lineT : List Tok → Nat → Nat
  | [], k => k
  | t :: r, k => lineT r (if t.kind = 3 then k + 1 else k)
theorem lastT_snoc (t : Tok) : ∀ (l : List Tok) (k : Nat), lastT (l ++ [t]) k = t.at_.toNat + (printP [t]).length
  | [], k => rfl
  | x :: r, k => lastT_snoc t r _
theorem lineT_snoc (t : Tok) : ∀ (l : List Tok) (k : Nat), lineT (l ++ [t]) k = if t.kind = 3 then lineT l k + 1 else lineT l k
  | [], k => rfl
  | x :: r, k => lineT_snoc t r _
theorem okT_snoc {L pre post : List UInt8} {t : Tok} (ha : t.at_ = (pre.length : Nat)) (hp : printP [t] ≠ []) (hL : L = pre ++ printP [t] ++ post) : ∀ (l : List Tok) (last line : Nat), okT L l last line → lastT l last ≤ pre.length → t.line = (lineT l line : Nat) → okT L (l ++ [t]) last line
  | [], last, line, h, h1, h2 => ⟨⟨pre, post, ha, h1, h2, hp, hL⟩, trivial⟩
  | x :: r, last, line, h, h1, h2 => ⟨h.1, okT_snoc ha hp hL r _ _ h.2 h1 h2⟩
theorem put_place {L pre w post : List UInt8} {q : RSt} {tok : Tok} (h : okT L q.list 0 0) (hl : lineT q.list 0 = q.line) (hk : lastT q.list 0 ≤ pre.length) (ha : tok.at_ = (pre.length : Nat))
    (hp : ∀ k, printP [{ tok with line := k }] = w) (hw : w ≠ []) (hL : L = pre ++ w ++ post) (he : (putR q tok).1 = 0) :
    okT L (putR q tok).2.list 0 0 ∧ lastT (putR q tok).2.list 0 = pre.length + w.length ∧ lineT (putR q tok).2.list 0 = (if tok.kind = 3 then q.line + 1 else q.line) ∧ (putR q tok).2.line = q.line := by
  unfold putR at he ⊢
  split at he
  · cases he
  · rename_i hn
    rw [if_neg hn]
    refine ⟨?_, ?_, ?_, rfl⟩
    · exact okT_snoc (t := { tok with line := q.line }) ha (by rw [hp]; exact hw) (by rw [hp]; exact hL) _ 0 0 h hk (by show (q.line : Int) = _; rw [hl])
    · simp only
      rw [lastT_snoc, hp]
      show tok.at_.toNat + _ = _
      rw [ha]; rfl
    · simp only
      rw [lineT_snoc, hl]
/-- What holds of the lexer's state behind the bytes pre of L. -/
structure PI (L : List UInt8) (q : RSt) (pre : List UInt8) : Prop where
  ok : okT L q.list 0 0
  line : lineT q.list 0 = q.line
  run : ∀ a w, q.run = some (a, w) → w ≠ [] ∧ ∃ p0, pre = p0 ++ w ∧ p0.length = a ∧ lastT q.list 0 ≤ a
  none : q.run = none → lastT q.list 0 ≤ pre.length
theorem shut_pl {L pre post : List UInt8} {q : RSt} (h : PI L q pre) (hL : L = pre ++ post) (he : (shutR q).2.1 = 0) : PI L (shutR q).2.2 pre := by
  rcases hr : q.run with _ | ⟨a, w⟩
  · rw [shutR_none hr]; exact h
  · obtain ⟨hw, p0, hpre, hp0, hla⟩ := h.run a w hr
    have hL' : L = p0 ++ w ++ post := by rw [hL, hpre]
    have hlen : pre.length = p0.length + w.length := by rw [hpre, List.length_append]
    have key : ∀ tok : Tok, tok.at_ = (a : Nat) → (∀ k, printP [{ tok with line := k }] = w) → tok.kind ≠ 3 → (putR { q with run := none } tok).1 = 0 → PI L (putR { q with run := none } tok).2 pre := by
      intro tok h1 h2 h3 h4
      obtain ⟨k1, k2, k3, k4⟩ := put_place (q := { q with run := none }) h.ok h.line (by rw [hp0]; exact hla) (by rw [h1, hp0]) h2 hw hL' h4
      rw [if_neg h3] at k3
      exact ⟨k1, by rw [k3, k4], fun a w e => (by rw [putR_run] at e; cases e), fun _ => by rw [k2, hlen]; exact Nat.le_refl _⟩
    unfold shutR at he ⊢
    rw [hr] at he ⊢
    simp only at he ⊢
    split at he
    · rename_i hh
      rw [if_pos hh]
      split at he
      · cases he
      · rename_i n hn
        exact key _ rfl (fun k => by rw [print_number rfl]; exact numP_inv hn hw) (show (1 : Int) ≠ 3 by decide) he
    · rename_i hh
      rw [if_neg hh]
      split at he
      · cases he
      · rename_i h24
        rw [if_neg h24]
        exact key _ rfl (fun k => by rw [print_text (.inl rfl)]) (show (0 : Int) ≠ 3 by decide) he
theorem rune_pl {L pre b post : List UInt8} {c : Nat} {q : RSt} (h : PI L q pre) (hL : L = pre ++ b ++ post) (hb : b ≠ []) (h10 : c = 10 → b = [10]) (hs : isSign c = true → b = (Utf8.encode (c : Int)).data.toList)
    (he : (runeR pre.length c b q).2.1 = 0) : PI L (runeR pre.length c b q).2.2 (pre ++ b) := by
  have hk := shutR_kept q
  unfold runeR at he ⊢
  split at he
  · rename_i hi
    rw [if_pos hi]
    refine ⟨h.ok, h.line, fun a w e => ?_, fun e => ?_⟩
    · simp only [growR] at e
      rcases hr : q.run with _ | ⟨a', w'⟩
      · rw [hr] at e
        simp only [Option.some.injEq, Prod.mk.injEq] at e
        obtain ⟨rfl, rfl⟩ := e
        exact ⟨hb, pre, rfl, rfl, h.none hr⟩
      · rw [hr] at e
        simp only [Option.some.injEq, Prod.mk.injEq] at e
        obtain ⟨rfl, rfl⟩ := e
        obtain ⟨hw, p0, hp, hp0, hla⟩ := h.run _ _ hr
        exact ⟨by simp [hb], p0, by rw [hp, List.append_assoc], hp0, hla⟩
    · simp only [growR] at e
      rcases hr : q.run with _ | ⟨a', w'⟩ <;> (rw [hr] at e; cases e)
  · rename_i hi
    rw [if_neg hi]
    split at he
    · rename_i hne
      exact absurd he hne
    · rename_i hne
      rw [if_neg hne]
      have h1 := shut_pl (post := b ++ post) h (by rw [hL, List.append_assoc]) (Decidable.not_not.1 hne)
      generalize (shutR q).2.2 = q1 at h1 hk he
      have hr1 := hk.1
      have hl1 := h1.none hr1
      have wk : ∀ q2 : RSt, q2.list = q1.list → q2.line = q1.line → q2.run = q1.run → PI L q2 (pre ++ b) := fun q2 e1 e2 e3 =>
        ⟨by rw [e1]; exact h1.ok, by rw [e1, e2]; exact h1.line, fun a w e => (by rw [e3, hr1] at e; cases e), fun _ => by rw [e1, List.length_append]; omega⟩
      unfold restR at he ⊢
      split at he
      · rename_i hc
        rw [if_pos hc]
        obtain ⟨k1, k2, k3, k4⟩ := put_place (q := { q1 with remark := false }) (tok := { kind := 3, text := ⟨#[]⟩, num := 0, at_ := pre.length, line := 0 }) h1.ok h1.line hl1 rfl (fun k => by rw [print_end rfl]) (by simp : ([10] : List UInt8) ≠ []) (by rw [hL, h10 hc]) he
        rw [if_pos rfl] at k3
        refine ⟨k1, ?_, fun a w e => ?_, fun _ => ?_⟩
        · show lineT _ 0 = _ + 1
          rw [k3, k4]
        · have : (putR { q1 with remark := false } { kind := 3, text := ⟨#[]⟩, num := 0, at_ := pre.length, line := 0 }).2.run = some (a, w) := e
          rw [putR_run] at this
          simp only at this
          rw [hr1] at this; cases this
        · rw [h10 hc]
          show lastT _ 0 ≤ _
          rw [k2, List.length_append]
          exact Nat.le_refl _
      · rename_i hc
        rw [if_neg hc]
        split at he
        · rename_i hc2
          rw [if_pos hc2]
          exact wk _ rfl rfl rfl
        · rename_i hc2
          rw [if_neg hc2]
          split at he
          · rename_i hc3
            rw [if_pos hc3]
            exact wk _ rfl rfl rfl
          · rename_i hc3
            rw [if_neg hc3]
            split at he
            · rename_i hc4
              rw [if_pos hc4]
              have hbs := hs hc4
              have hz : ∀ k, printP [{ ({ kind := 2, text := Utf8.encode (c : Int), num := 0, at_ := pre.length, line := 0 } : Tok) with line := k }] = b := fun k => by rw [print_text (.inr rfl), hbs]
              generalize hg : ({ kind := 2, text := Utf8.encode (c : Int), num := 0, at_ := pre.length, line := 0 } : Tok) = tok at he hz ⊢
              have ht1 : tok.at_ = (pre.length : Nat) := by rw [← hg]
              have ht2 : tok.kind ≠ 3 := by rw [← hg]; exact (show (2 : Int) ≠ 3 by decide)
              clear hg
              obtain ⟨k1, k2, k3, k4⟩ := put_place (q := q1) (tok := tok) h1.ok h1.line hl1 ht1 hz hb hL he
              rw [if_neg ht2] at k3
              exact ⟨k1, by rw [k3, k4], fun a w e => (by rw [putR_run, hr1] at e; cases e), fun _ => by rw [k2, List.length_append]; exact Nat.le_refl _⟩
            · cases he
/-- A rune and its bytes, as the lexer needs them. -/
def Fits (y : Nat × List UInt8) : Prop := y.2 ≠ [] ∧ (y.1 = 10 → y.2 = [10]) ∧ (isSign y.1 = true → y.2 = (Utf8.encode (y.1 : Int)).data.toList)
def flatR (x : List (Nat × List UInt8)) : List UInt8 := x.flatMap (·.2)
theorem lexR_pl (L : List UInt8) : ∀ (x : List (Nat × List UInt8)) (pre : List UInt8) (q : RSt), L = pre ++ flatR x → (∀ y ∈ x, Fits y) → PI L q pre → (lexR x pre.length q).2.2 = 0 → okT L (lexR x pre.length q).1 0 0
  | [], pre, q, hL, hx, h, he => by
    rw [lexR, endR] at he ⊢
    split at he
    · rename_i hn; exact absurd he hn
    · rename_i hn
      rw [if_neg hn]
      exact (shut_pl (post := []) h (by rw [hL]; rfl) (Decidable.not_not.1 hn)).ok
  | (c, b) :: r, pre, q, hL, hx, h, he => by
    obtain ⟨h1, h2, h3⟩ := hx (c, b) (by simp)
    have hL' : L = pre ++ b ++ flatR r := by rw [hL, List.append_assoc]; rfl
    rw [lexR] at he ⊢
    split at he
    · rename_i hn; exact absurd he hn
    · rename_i hn
      rw [if_neg hn]
      have hp := rune_pl h hL' h1 h2 h3 (Decidable.not_not.1 hn)
      have := lexR_pl L r (pre ++ b) _ hL' (fun y hy => hx y (by simp [hy])) hp (by rw [List.length_append]; exact he)
      rwa [List.length_append] at this
theorem flat_runes : ∀ (n : Nat) (l : List UInt8), l.length ≤ n → flatR (runesOf l) = l
  | 0, l, hn => by
    obtain rfl : l = [] := List.eq_nil_of_length_eq_zero (by omega)
    rfl
  | n + 1, l, hn => by
    by_cases hl : l = []
    · subst hl; rfl
    · have hp := decodeL_pos hl
      have h0 : 0 < l.length := List.length_pos_iff.2 hl
      rw [runesOf_cons hl]
      show l.take _ ++ flatR _ = l
      rw [flat_runes n _ (by rw [List.length_drop]; omega), List.take_append_drop]
theorem sign_code : ∀ k : Fin 12, ∀ b : List UInt8, (Utf8.encode (signRunes.getD k.val 0 : Nat)).data.toList = b → Lib.encodeRune (signRunes.getD k.val 0 : Nat) = b ∧ signRunes.getD k.val 0 ≠ 65533 := by
  have h : ∀ k : Fin 12, Lib.encodeRune (signRunes.getD k.val 0 : Nat) = (Utf8.encode (signRunes.getD k.val 0 : Nat)).data.toList ∧ signRunes.getD k.val 0 ≠ 65533 := by decide +kernel
  intro k b hb
  rw [← hb]; exact h k
theorem runesOf_fits : ∀ (n : Nat) (l : List UInt8), l.length ≤ n → ∀ x ∈ runesOf l, Fits x
  | 0, l, hn, x, hx => by
    obtain rfl : l = [] := List.eq_nil_of_length_eq_zero (by omega)
    simp [runesOf_nil] at hx
  | n + 1, l, hn, x, hx => by
    by_cases hl : l = []
    · subst hl; simp [runesOf_nil] at hx
    · have hs := runesOf_some (n + 1) l hn x hx
      have hpr := runesOf_proper (n + 1) l hn x hx
      have hp := decodeL_pos hl
      have h0 : 0 < l.length := List.length_pos_iff.2 hl
      rw [runesOf_cons hl] at hx
      rcases List.mem_cons.1 hx with rfl | hx
      · refine ⟨fun e => by rw [e] at hs; simp at hs, fun e => ?_, fun e => ?_⟩
        · obtain ⟨y, hy, hy2⟩ := hpr (by rw [e]; decide)
          rw [hy, UInt8.toNat_inj.1 (show y.toNat = (10 : UInt8).toNat by rw [hy2, e]; rfl)]
        · simp only at e ⊢
          obtain ⟨k, hk, hc⟩ := isSign_mem.1 e
          obtain ⟨g1, g2⟩ := sign_code ⟨k, hk⟩ _ rfl
          simp only at g1 g2
          rw [hc] at g1 g2
          rw [← g1, Lib.encode_decode l hl (fun e => g2 e.1)]
      · exact runesOf_fits n _ (by rw [List.length_drop]; omega) x hx
theorem lexP_ok {s : ByteArray} {l : List Tok} {p : Int} (h : lexP s = (l, p, 0)) (hs : s.size ≤ 65536) : okT s.data.toList l 0 0 := by
  rw [lexP_R s hs] at h
  have h1 := lexR_pl s.data.toList (runesOf s.data.toList) [] r0 (flat_runes _ _ (Nat.le_refl _)).symm (runesOf_fits _ _ (Nat.le_refl _)) ⟨trivial, rfl, fun a w e => by simp [r0] at e, fun _ => Nat.le_refl _⟩ (by show (lexR _ 0 r0).2.2 = 0; rw [h])
  have h2 : okT s.data.toList (lexR (runesOf s.data.toList) 0 r0).1 0 0 := h1
  rwa [h] at h2
/-- Ahead of a fault, up to a line's end, the text is read. -/
theorem lines_ok {X Y : List UInt8} {p e : Int} {l : List Tok} (hX : X = [] ∨ ∃ X', X = X' ++ [10]) (h : lexR (runesOf (X ++ Y)) 0 r0 = (l, p, e)) (he : e ≠ 0) (hp : (X.length : Int) ≤ p) : (lexR (runesOf X) 0 r0).2.2 = 0 := by
  rcases hX with rfl | ⟨X', rfl⟩
  · rfl
  · have ha : runesOf (X' ++ [10] ++ Y) = (runesOf X' ++ [(10, [10])]) ++ runesOf Y := by
      rw [List.append_assoc, List.singleton_append, runesOf_append (10 :: Y) (.inr ⟨10, _, rfl, by decide⟩) _ X' (Nat.le_refl _), runesOf_ascii 10 Y (by decide), List.append_assoc]
      rfl
    have hb : runesOf (X' ++ [10]) = runesOf X' ++ [(10, [10])] := by
      rw [runesOf_append [10] (.inr ⟨10, _, rfl, by decide⟩) _ X' (Nat.le_refl _)]
      rfl
    have hlen : bytesOf (runesOf X' ++ [(10, [10])]) = (X' ++ [10]).length := by rw [← hb]; exact bytesOf_runes _ _ (Nat.le_refl _)
    have hpl := lexR_place (runesOf (X' ++ [10])) 0 r0 (runesOf_some _ _ (Nat.le_refl _)) (fun a w e => by simp [r0] at e)
    rw [hb] at hpl ⊢
    rw [ha, lexR_app] at h
    rw [hlen, Nat.zero_add] at hpl
    rw [lexR_end] at hpl ⊢
    by_cases h1 : (stR (runesOf X' ++ [(10, [10])]) 0 r0).2.1 ≠ 0
    · rw [if_pos h1] at h hpl
      have := (hpl h1).2
      injection h with _ h
      injection h with h _
      simp only at this
      omega
    · rw [if_neg h1]
      have hrun : ∀ (x : List (Nat × List UInt8)) (pos : Nat) (q : RSt), (stR (x ++ [(10, [10])]) pos q).2.1 = 0 → (stR (x ++ [(10, [10])]) pos q).2.2.run = none := by
        intro x
        induction x with
        | nil =>
          intro pos q hq
          have hk := shutR_kept q
          have hi : inR 10 q = false := by simp [inR, isLetter, isDigit]
          show (stR [(10, [10])] pos q).2.2.run = none
          have hq' : (stR [(10, [10])] pos q).2.1 = 0 := hq
          rw [stR] at hq' ⊢
          split at hq'
          · rename_i hn; exact absurd hq' hn
          · rename_i hn
            rw [if_neg hn]
            show (runeR pos 10 [10] q).2.2.run = none
            have hn' : (runeR pos 10 [10] q).2.1 = 0 := Decidable.not_not.1 hn
            rw [runeR, hi] at hn' ⊢
            simp only [Bool.false_and, Bool.false_eq_true, if_false] at hn' ⊢
            split at hn'
            · rename_i h3; exact absurd hn' h3
            · rename_i h3
              rw [if_neg h3]
              show (putR _ _).2.run = none
              rw [putR_run]
              exact hk.1
        | cons y x ih =>
          intro pos q hq
          rw [List.cons_append, stR] at hq ⊢
          split at hq
          · rename_i hn; exact absurd hq hn
          · rename_i hn
            rw [if_neg hn]
            exact ih _ _ hq
      rw [endR, shutR_none (hrun _ _ _ (Decidable.not_not.1 h1))]
      rfl
theorem lexP_lines {s : ByteArray} {l : List Tok} {p e : Int} (h : lexP s = (l, p, e)) (hs : s.size ≤ 65536) (he : e ≠ 0) (k : Nat) (hk : (k : Int) ≤ p) (hb : k = 0 ∨ s.data.toList[k - 1]? = some 10) :
    ∃ l' p', lexP (s.extract 0 k) = (l', p', 0) := by
  have hp := lexP_place h hs he
  have hsz : s.data.toList.length = s.size := rfl
  have hx : (s.extract 0 k).data.toList = s.data.toList.take k := by simp
  have hz : (s.extract 0 k).size = k := by
    have : (s.extract 0 k).data.toList.length = (s.extract 0 k).size := rfl
    rw [← this, hx, List.length_take]; omega
  rw [lexP_R s hs] at h
  have hX : s.data.toList.take k = [] ∨ ∃ X', s.data.toList.take k = X' ++ [10] := by
    rcases hb with rfl | hb
    · exact .inl (by simp)
    · rcases Nat.eq_zero_or_pos k with rfl | h0
      · exact .inl (by simp)
      · refine .inr ⟨s.data.toList.take (k - 1), ?_⟩
        rw [show k = (k - 1) + 1 by omega, List.take_add_one, show k - 1 + 1 - 1 = k - 1 by omega, hb]
        rfl
  have h0 := lines_ok (X := s.data.toList.take k) (Y := s.data.toList.drop k) hX (by rw [List.take_append_drop]; exact h) he (by rw [List.length_take]; omega)
  rw [← hx, ← lexP_R _ (by omega)] at h0
  obtain ⟨l', p', e', hl⟩ : ∃ l' p' e', lexP (s.extract 0 k) = (l', p', e') := ⟨_, _, _, rfl⟩
  rw [hl] at h0
  exact ⟨l', p', by rw [hl]; simp only at h0; rw [h0]⟩
end Go.Proofs.YthdlihiehfkceaaDoor

namespace Go.Proofs.YthdlihiehfkceaaDoor
open Go.RowKit
open Go.Lib (decodeL decodeN)
set_option linter.unusedVariables false

/-- An error at the text's end comes at the next rune that stands in no run, at the same place. -/
theorem lexR_fault {rest : List UInt8} {c : UInt8} (hc : c = 10 ∨ c = 32 ∨ c = 9 ∨ c = 35) {pos : Nat} {st : RSt} (he : (shutR st).2.1 ≠ 0) :
    lexR (runesOf (c :: rest)) pos st = ([], (shutR st).1, (shutR st).2.1) := by
  have hs : c.toNat < 128 := by rcases hc with rfl | rfl | rfl | rfl <;> decide
  have hi : inR c.toNat st = false := by rcases hc with rfl | rfl | rfl | rfl <;> simp [inR, isLetter, isDigit]
  have hr : runeR pos c.toNat [c] st = shutR st := by
    rw [runeR, hi, if_neg (by simp), if_pos he]
  rw [runesOf_ascii c rest hs, lexR, hr, if_pos he]
/-- From the shut state behind the first text on. -/
theorem join_rest (P note B : List UInt8) (hP : ∀ x ∈ P, x = 32 ∨ x = 9) (hn : ∀ x ∈ runesOf note, x.1 ≠ 10) (pos : Nat) (q : RSt) (hr : q.run = none) (hl : q.list.length + 1 + B.length < 16384) :
    lexR (runesOf (P ++ (35 :: (note ++ (10 :: (P ++ B)))))) pos q =
      if (lexR (runesOf B) 0 r0).2.2 = 0 then (q.list ++ [⟨3, ⟨#[]⟩, 0, (pos + P.length + 1 + note.length : Nat), q.line⟩] ++ (lexR (runesOf B) 0 r0).1.map (moveT (q.line + 1) (pos + 2 * P.length + note.length + 2)), 0, 0)
      else ([], (lexR (runesOf B) 0 r0).2.1 + ((pos + 2 * P.length + note.length + 2 : Nat) : Int), (lexR (runesOf B) 0 r0).2.2) := by
  have h35 : runeR (pos + P.length) (35 : UInt8).toNat [35] q = (0, 0, { q with remark := true }) := by
    show runeR (pos + P.length) 35 [35] q = _
    by_cases hm : q.remark = true
    · rw [rune_remark (by omega) hr hm]
      rw [show ({ q with remark := true } : RSt) = q by rw [← hm]]
    · have hi : inR 35 q = false := by simp [inR, isLetter, isDigit]
      rw [runeR, hi, shutR_none hr]
      simp [restR, hm]
  have h10 : ∀ p, runeR p (10 : UInt8).toNat [10] { q with remark := true } = ((p : Int), 0, { list := q.list ++ [⟨3, ⟨#[]⟩, 0, p, q.line⟩], line := q.line + 1, run := none, remark := false }) := by
    intro p
    show runeR p 10 [10] { q with remark := true } = _
    have hi : inR 10 { q with remark := true } = false := by simp [inR, isLetter, isDigit]
    rw [runeR, hi, shutR_none (by exact hr)]
    simp only [Bool.false_and, Bool.false_eq_true, if_false, ne_eq, not_true_eq_false]
    rw [restR, if_pos rfl, putR_ok _ (by show q.list.length < _; omega)]
    simp [hr]
  rw [pass_blanks _ P pos q hP hr, runesOf_ascii 35 _ (by decide), lexR, h35]
  simp only [ne_eq, not_true_eq_false, if_false]
  rw [runesOf_append (10 :: (P ++ B)) (.inr ⟨10, _, rfl, by decide⟩) _ note (Nat.le_refl _), pass_remark _ _ _ { q with remark := true } hn hr rfl, bytesOf_runes _ note (Nat.le_refl _),
    runesOf_ascii 10 _ (by decide), lexR, h10]
  simp only [ne_eq, not_true_eq_false, if_false]
  rw [pass_blanks B P _ { list := q.list ++ [⟨3, ⟨#[]⟩, 0, (pos + P.length + [(35 : UInt8)].length + note.length : Nat), q.line⟩], line := q.line + 1, run := none, remark := false } hP rfl]
  have hm := lexR_move (q.list ++ [⟨3, ⟨#[]⟩, 0, (pos + P.length + [(35 : UInt8)].length + note.length : Nat), q.line⟩]) (q.line + 1) (pos + P.length + [(35 : UInt8)].length + note.length + [(10 : UInt8)].length + P.length) (runesOf B) 0 0 r0 ⟨fun t ht => by simp [r0] at ht, fun a w e => (by cases e), by simp [r0]⟩ (runesOf_proper _ _ (Nat.le_refl _)) (by have := runesOf_length _ B (Nat.le_refl _); simp; omega)
  have e0 : moveR (q.list ++ [⟨3, ⟨#[]⟩, 0, (pos + P.length + [(35 : UInt8)].length + note.length : Nat), q.line⟩]) (q.line + 1) (pos + P.length + [(35 : UInt8)].length + note.length + [(10 : UInt8)].length + P.length) r0 = { list := q.list ++ [⟨3, ⟨#[]⟩, 0, (pos + P.length + [(35 : UInt8)].length + note.length : Nat), q.line⟩], line := q.line + 1, run := none, remark := false } := by simp [moveR, r0]
  rw [e0, Nat.zero_add] at hm
  rw [hm]
  have e1 : pos + P.length + [(35 : UInt8)].length + note.length + [(10 : UInt8)].length + P.length = pos + 2 * P.length + note.length + 2 := by simp; omega
  rw [e1]
  rfl
theorem join_plain (A P note B : List UInt8) (hP : ∀ x ∈ P, x = 32 ∨ x = 9) (hn : ∀ x ∈ runesOf note, x.1 ≠ 10) (hl : A.length + 1 + B.length < 16384) :
    ((lexR (runesOf A) 0 r0).2.2 ≠ 0 → lexR (runesOf (A ++ (P ++ (35 :: (note ++ (10 :: (P ++ B))))))) 0 r0 = ([], (lexR (runesOf A) 0 r0).2.1, (lexR (runesOf A) 0 r0).2.2)) ∧
    ((lexR (runesOf A) 0 r0).2.2 = 0 → (lexR (runesOf B) 0 r0).2.2 ≠ 0 → lexR (runesOf (A ++ (P ++ (35 :: (note ++ (10 :: (P ++ B))))))) 0 r0 = ([], (lexR (runesOf B) 0 r0).2.1 + ((A.length + 2 * P.length + note.length + 2 : Nat) : Int), (lexR (runesOf B) 0 r0).2.2)) ∧
    ((lexR (runesOf A) 0 r0).2.2 = 0 → (lexR (runesOf B) 0 r0).2.2 = 0 → ∃ p n k d, lexR (runesOf (A ++ (P ++ (35 :: (note ++ (10 :: (P ++ B))))))) 0 r0 = ((lexR (runesOf A) 0 r0).1 ++ [⟨3, ⟨#[]⟩, 0, p, n⟩] ++ (lexR (runesOf B) 0 r0).1.map (moveT k d), 0, 0)) := by
  have hhead : ∃ c r, P ++ (35 :: (note ++ (10 :: (P ++ B)))) = c :: r ∧ (c = 10 ∨ c = 32 ∨ c = 9 ∨ c = 35) := by
    cases P with
    | nil => exact ⟨35, _, rfl, by simp⟩
    | cons x P =>
      refine ⟨x, _, rfl, ?_⟩
      rcases hP x (by simp) with h | h <;> simp [h]
  have hR := fun pos q => join_rest P note B hP hn pos q
  obtain ⟨c, r, hcr, hc⟩ := hhead
  generalize P ++ (35 :: (note ++ (10 :: (P ++ B)))) = rest at hcr hR ⊢
  have hpl : plainHead rest := .inr ⟨c, r, hcr, by rcases hc with rfl | rfl | rfl | rfl <;> decide⟩
  have happ := lexR_app (runesOf rest) (runesOf A) 0 r0
  rw [← runesOf_append rest hpl _ A (Nat.le_refl _), bytesOf_runes _ A (Nat.le_refl _), Nat.zero_add] at happ
  have hend := lexR_end (runesOf A) 0 r0
  have hforms := lexR_forms (runesOf A) 0 0 r0 ⟨fun t ht => by simp [r0] at ht, fun a w e => (by cases e), by simp [r0]⟩ (runesOf_proper _ _ (Nat.le_refl _))
  have hrl := runesOf_length _ A (Nat.le_refl _)
  rw [happ]
  by_cases h1 : (stR (runesOf A) 0 r0).2.1 ≠ 0
  · rw [if_pos h1] at hend
    rw [if_pos h1, hend]
    exact ⟨fun _ => rfl, fun h => absurd h h1, fun h => absurd h h1⟩
  · rw [if_neg h1] at hend
    rw [if_neg h1, hend]
    generalize (stR (runesOf A) 0 r0).2.2 = qa at hend ⊢
    by_cases h2 : (shutR qa).2.1 ≠ 0
    · have he : endR qa = ([], (shutR qa).1, (shutR qa).2.1) := by rw [endR, if_pos h2]
      rw [he, hcr, lexR_fault hc h2]
      exact ⟨fun _ => rfl, fun h => absurd h h2, fun h => absurd h h2⟩
    · have h2' : (shutR qa).2.1 = 0 := Decidable.not_not.1 h2
      have he : endR qa = ((shutR qa).2.2.list, 0, 0) := by rw [endR, if_neg h2]
      rw [hend, he] at hforms
      have hll : (shutR qa).2.2.list.length ≤ A.length := by have := hforms.2; simp only at this; omega
      rw [he]
      have hclose := lexR_close (rest := rest) (.inr ⟨c, r, hcr, hc⟩) (pos := A.length) h2'
      rw [hclose, hR A.length _ (shutR_kept qa).1 (by omega)]
      refine ⟨fun h => absurd rfl h, fun _ h => by rw [if_neg h], fun _ h => ?_⟩
      rw [if_pos h]
      exact ⟨_, _, _, _, rfl⟩
end Go.Proofs.YthdlihiehfkceaaDoor

namespace Go.Proofs.YthdlihiehfkceaaDoor
open Go.RowKit
set_option linter.unusedVariables false

theorem lexR_err : ∀ (x : List (Nat × List UInt8)) (pos : Nat) (q : RSt), (lexR x pos q).2.2 ≠ 0 → (lexR x pos q).1 = []
  | [], pos, q, h => by
    rw [lexR, endR] at h ⊢
    split at h
    · rw [if_pos (by assumption)]
    · exact absurd rfl h
  | (c, b) :: r, pos, q, h => by
    rw [lexR] at h ⊢
    split at h
    · rw [if_pos (by assumption)]
    · rw [if_neg (by assumption)]; exact lexR_err r _ _ h
theorem lexP_err {s : ByteArray} {l : List Tok} {p e : Int} (h : lexP s = (l, p, e)) (hs : s.size ≤ 65536) (he : e ≠ 0) : l = [] := by
  rw [lexP_R s hs] at h
  have := lexR_err (runesOf s.data.toList) 0 r0 (by rw [h]; exact he)
  rw [h] at this
  exact this
end Go.Proofs.YthdlihiehfkceaaDoor

namespace Go.Proofs.YthdlihiehfkceaaDoor
open Go.RowKit
open Go.Lib (decodeL decodeN)
set_option linter.unusedVariables false

theorem byte_no10 {n : Nat} (h : n < 256) (h10 : n ≠ 10) : UInt8.ofNat n ≠ 10 := by
  intro e
  have e2 := congrArg UInt8.toNat e
  rw [UInt8.toNat_ofNat'] at e2
  have e3 : (10 : UInt8).toNat = 10 := rfl
  omega
/-- The bytes of a rune that is no line's end are none. -/
theorem encode_no10 (c : Nat) (h : c ≠ 10) : (Utf8.encode (c : Int)).size ≤ 4 ∧ ∀ x ∈ (Utf8.encode (c : Int)).data.toList, x ≠ 10 := by
  obtain ⟨d, hd⟩ : ∃ d, (if Utf8.valid (c : Int) then (c : Int).toNat else Utf8.runeError) = d := ⟨_, rfl⟩
  have h1 : d ≠ 10 ∧ d < 1114112 := by
    rw [← hd]
    split
    · rename_i hv
      simp only [Utf8.valid, Bool.or_eq_true, Bool.and_eq_true, decide_eq_true_eq] at hv
      omega
    · simp [Utf8.runeError]
  unfold Utf8.encode
  simp only [hd]
  clear hd
  split
  · refine ⟨by simp [ByteArray.size], fun x hx => ?_⟩
    obtain rfl : x = UInt8.ofNat d := by simpa using hx
    exact byte_no10 (by omega) h1.1
  · split
    · refine ⟨by simp [ByteArray.size], fun x hx => ?_⟩
      have hx' : x = UInt8.ofNat (192 + d / 64) ∨ x = UInt8.ofNat (128 + d % 64) := by simpa using hx
      rcases hx' with rfl | rfl <;> exact byte_no10 (by omega) (by omega)
    · split
      · refine ⟨by simp [ByteArray.size], fun x hx => ?_⟩
        have hx' : x = UInt8.ofNat (224 + d / 4096) ∨ x = UInt8.ofNat (128 + d / 64 % 64) ∨ x = UInt8.ofNat (128 + d % 64) := by simpa using hx
        rcases hx' with rfl | rfl | rfl <;> exact byte_no10 (by omega) (by omega)
      · refine ⟨by simp [ByteArray.size], fun x hx => ?_⟩
        have hx' : x = UInt8.ofNat (240 + d / 262144) ∨ x = UInt8.ofNat (128 + d / 4096 % 64) ∨ x = UInt8.ofNat (128 + d / 64 % 64) ∨ x = UInt8.ofNat (128 + d % 64) := by simpa using hx
        rcases hx' with rfl | rfl | rfl | rfl <;> exact byte_no10 (by omega) (by omega)
theorem runes_no10 : ∀ (n : Nat) (l : List UInt8), l.length ≤ n → (∀ x ∈ l, x ≠ 10) → ∀ x ∈ runesOf l, x.1 ≠ 10
  | 0, l, hn, _, x, hx => by
    obtain rfl : l = [] := List.eq_nil_of_length_eq_zero (by omega)
    simp [runesOf_nil] at hx
  | n + 1, l, hn, h, x, hx => by
    by_cases hl : l = []
    · subst hl; simp [runesOf_nil] at hx
    · have hpr := runesOf_proper (n + 1) l hn x hx
      have hp := decodeL_pos hl
      have h0 : 0 < l.length := List.length_pos_iff.2 hl
      rw [runesOf_cons hl] at hx
      rcases List.mem_cons.1 hx with rfl | hx
      · intro e
        obtain ⟨y, hy, hy2⟩ := hpr (by rw [e]; decide)
        have hmem : y ∈ l := List.mem_of_mem_take (by show y ∈ List.take (decodeL l).2 l; have h2 : List.take (decodeL l).2 l = [y] := hy; rw [h2]; simp)
        refine h y hmem (UInt8.toNat_inj.1 ?_)
        rw [hy2, e]; rfl
      · exact runes_no10 n (l.drop (decodeL l).2) (by rw [List.length_drop]; omega) (fun y hy => h y (List.mem_of_mem_drop hy)) x hx
theorem sameP_app : ∀ {l r l' r' : List Tok}, sameP l r = true → sameP l' r' = true → sameP (l ++ l') (r ++ r') = true
  | [], [], _, _, _, h => h
  | [], _ :: _, _, _, h, _ => by cases h
  | _ :: _, [], _, _, h, _ => by cases h
  | x :: l, y :: r, l', r', h, h' => by
    simp only [sameP, Bool.and_eq_true] at h
    simp only [List.cons_append, sameP, Bool.and_eq_true]
    exact ⟨h.1, sameP_app h.2 h'⟩
theorem sameP_move (k d : Nat) (l : List Tok) : sameP (l.map (moveT k d)) l = true := by
  induction l with
  | nil => rfl
  | cons x l ih => simp [sameP, sameTok, moveT, ih]
/-- The token of a line's end that the law lays between. -/
def midTok : Tok := ⟨3, ⟨#[]⟩, 0, 0, 0⟩
def joined (a pad note b : ByteArray) : ByteArray := a ++ pad ++ ⟨#[35]⟩ ++ note ++ ⟨#[10]⟩ ++ pad ++ b
theorem joined_list (a pad note b : ByteArray) : (joined a pad note b).data.toList = a.data.toList ++ (pad.data.toList ++ (35 :: (note.data.toList ++ (10 :: (pad.data.toList ++ b.data.toList))))) := by
  simp only [joined, ByteArray.data_append, Array.toList_append, List.append_assoc]
  rfl
theorem joined_size (a pad note b : ByteArray) : (joined a pad note b).size = a.size + 2 * pad.size + note.size + 2 + b.size := by
  have h : ∀ x : ByteArray, x.data.toList.length = x.size := fun _ => rfl
  rw [← h, joined_list]
  simp only [List.length_append, List.length_cons, h]
  omega
theorem joins_plain {a pad note b : ByteArray} (hp : ∀ x ∈ pad.data.toList, x = 32 ∨ x = 9) (hn : ∀ x ∈ note.data.toList, x ≠ 10) (ha3 : a.size ≤ 300) (hb3 : b.size ≤ 300) (hps : pad.size ≤ 30) (hns : note.size ≤ 1200)
    {la lb : List Tok} {pa ea pb eb : Int} (ha : lexP a = (la, pa, ea)) (hb : lexP b = (lb, pb, eb)) :
    (ea ≠ 0 → lexP (joined a pad note b) = ([], pa, ea)) ∧
    (ea = 0 → eb ≠ 0 → lexP (joined a pad note b) = ([], pb + ((a.size + 2 * pad.size + note.size + 2 : Nat) : Int), eb)) ∧
    (ea = 0 → eb = 0 → ∃ L, lexP (joined a pad note b) = (L, 0, 0) ∧ sameP L (la ++ [midTok] ++ lb) = true ∧ L.length = la.length + 1 + lb.length) := by
  have h : ∀ x : ByteArray, x.data.toList.length = x.size := fun _ => rfl
  have hj := join_plain a.data.toList pad.data.toList note.data.toList b.data.toList hp (runes_no10 _ _ (Nat.le_refl _) hn) (by rw [h, h]; omega)
  rw [← joined_list, ← lexP_R (joined a pad note b) (by rw [joined_size]; omega), ← lexP_R a (by omega), ← lexP_R b (by omega), ha, hb] at hj
  simp only [h] at hj
  refine ⟨hj.1, hj.2.1, fun e f => ?_⟩
  obtain ⟨p, n, k, d, hL⟩ := hj.2.2 e f
  refine ⟨_, hL, ?_, by simp; omega⟩
  exact sameP_app (sameP_app (sameP_refl _) (by simp [sameP, sameTok, midTok])) (sameP_move k d lb)
end Go.Proofs.YthdlihiehfkceaaDoor

namespace Go.Proofs.YthdlihiehfkceaaDoor
open Go.RowKit
open Go.Lib (decodeL decodeN)
set_option linter.unusedVariables false

def tok0 : Tok := ⟨0, ⟨#[]⟩, 0, 0, 0⟩
def runLen : List UInt8 → Nat
  | [] => 0
  | x :: r => if runByte x then 1 + (r.takeWhile moreByte).length else 0
def oneP (w : List UInt8) (at_ line : Int) : Tok × Int :=
  if headR w then match numP w with
    | none => (tok0, 22)
    | some n => (⟨1, ⟨#[]⟩, n, at_, line⟩, 0)
  else if 24 < w.length then (tok0, 21) else (⟨0, ⟨w.toArray⟩, 0, at_, line⟩, 0)
def signTexts : List (List UInt8) := [[226, 134, 144], [43], [45], [195, 151], [37], [61], [60], [91], [93], [58], [36], [44]]
def signB (b : List UInt8) : Bool := signTexts.contains b
def restP (c : UInt8) (r : List UInt8) (at_ line : Int) : Tok × Bool × Nat × Int :=
  if c = 10 then (⟨3, ⟨#[]⟩, 0, at_, line⟩, true, 1, 0)
  else if c = 32 ∨ c = 9 ∨ c = 13 then (tok0, false, 1, 0)
  else if c = 35 then (tok0, false, 1 + (r.takeWhile (fun x => x != 10)).length, 0)
  else if signB ((c :: r).take (decodeL (c :: r)).2) then (⟨2, ⟨((c :: r).take (decodeL (c :: r)).2).toArray⟩, 0, at_, line⟩, true, (decodeL (c :: r)).2, 0)
  else (tok0, false, (decodeL (c :: r)).2, 20)
def nextP (rest : List UInt8) (at_ line : Int) : Tok × Bool × Nat × Int :=
  if 0 < runLen rest then ((oneP (rest.take (runLen rest)) at_ line).1, (oneP (rest.take (runLen rest)) at_ line).2 == 0, runLen rest, (oneP (rest.take (runLen rest)) at_ line).2)
  else match rest with
  | [] => (tok0, false, 0, 0)
  | c :: r => restP c r at_ line
def stepQ (q : RSt) (t : Tok) (is : Bool) : RSt := if is then { q with list := q.list ++ [t], line := if t.kind = 3 then q.line + 1 else q.line } else q

theorem rune_head (y : UInt8) (r : List UInt8) : (y.toNat < 128 → decodeL (y :: r) = (y.toNat, 1)) ∧ (¬ y.toNat < 128 → 128 ≤ (decodeL (y :: r)).1) := by
  refine ⟨fun h => Lib.decodeL_ascii y r h, fun h => ?_⟩
  have hd := Lib.decodeL_drop (⟨(y :: r).toArray⟩ : ByteArray) 0
  have e : (⟨(y :: r).toArray⟩ : ByteArray).data.toList.drop 0 = y :: r := by simp
  rw [e] at hd
  have := (decode_high (⟨(y :: r).toArray⟩ : ByteArray) 0 (by show 0 < (y :: r).toArray.size; simp) (by show 128 ≤ y.toNat; omega)).1
  rwa [← hd] at this
/-- A byte that stands in no run: nor does its rune. -/
theorem notIn {y : UInt8} {r : List UInt8} {st : RSt} (h : runByte y = false) (h46 : y = 46 → st.run = none) : inR (decodeL (y :: r)).1 st = false := by
  obtain ⟨h1, h2⟩ := rune_head y r
  by_cases hs : y.toNat < 128
  · rw [h1 hs]
    simp only [runByte] at h
    simp only [inR, h, Bool.false_or]
    by_cases hy : y = 46
    · rw [h46 hy]; simp
    · have : y.toNat ≠ 46 := fun e => hy (UInt8.toNat_inj.1 e)
      simp [this]
  · have := h2 hs
    simp only [inR, isLetter, isDigit, Bool.or_eq_false_iff, Bool.and_eq_false_iff, decide_eq_false_iff_not, beq_eq_false_iff_ne]
    exact ⟨⟨by omega, by omega⟩, .inl (by omega)⟩
theorem closeAny {rest : List UInt8} {pos : Nat} {st : RSt} (h : rest = [] ∨ ∃ y r, rest = y :: r ∧ moreByte y = false) :
    lexR (runesOf rest) pos st = if (shutR st).2.1 ≠ 0 then ([], (shutR st).1, (shutR st).2.1) else lexR (runesOf rest) pos (shutR st).2.2 := by
  rcases h with rfl | ⟨y, r, rfl, hy⟩
  · by_cases he : (shutR st).2.1 ≠ 0
    · rw [if_pos he]
      show endR st = _
      rw [endR, if_pos he]
    · rw [if_neg he]
      exact endR_shut (Decidable.not_not.1 he)
  · simp only [moreByte, Bool.or_eq_false_iff, beq_eq_false_iff_ne] at hy
    have hi : inR (decodeL (y :: r)).1 st = false := notIn hy.1 (fun e => absurd e hy.2)
    rw [runesOf_cons (by simp), lexR]
    by_cases he : (shutR st).2.1 ≠ 0
    · have hr : ∀ b, runeR pos (decodeL (y :: r)).1 b st = shutR st := fun b => by rw [runeR, hi]; simp [he]
      rw [if_pos he, hr, if_pos he]
    · rw [if_neg he, runeR_shut (.inl hi) (Decidable.not_not.1 he)]
      rw [lexR]
theorem dropWhile_head {p : UInt8 → Bool} : ∀ (l : List UInt8), l.dropWhile p = [] ∨ ∃ y r, l.dropWhile p = y :: r ∧ p y = false
  | [] => .inl rfl
  | x :: l => by
    by_cases h : p x = true
    · rw [List.dropWhile_cons_of_pos h]; exact dropWhile_head l
    · rw [List.dropWhile_cons_of_neg h]; exact .inr ⟨x, l, rfl, by simpa using h⟩
theorem takeWhile_all {p : UInt8 → Bool} : ∀ (l : List UInt8), ∀ y ∈ l.takeWhile p, p y = true
  | [], y, h => by simp at h
  | x :: l, y, h => by
    by_cases hx : p x = true
    · rw [List.takeWhile_cons_of_pos hx] at h
      rcases List.mem_cons.1 h with rfl | h
      · exact hx
      · exact takeWhile_all l y h
    · rw [List.takeWhile_cons_of_neg hx] at h; simp at h
theorem take_tw (p : UInt8 → Bool) (r : List UInt8) : r.take (r.takeWhile p).length = r.takeWhile p := by
  have h := List.takeWhile_append_dropWhile (p := p) (l := r)
  have h2 : (r.takeWhile p ++ r.dropWhile p).take (r.takeWhile p).length = r.takeWhile p := List.take_left
  rwa [h] at h2
theorem drop_tw (p : UInt8 → Bool) (r : List UInt8) : r.drop (r.takeWhile p).length = r.dropWhile p := by
  have h := List.takeWhile_append_dropWhile (p := p) (l := r)
  have h2 : (r.takeWhile p ++ r.dropWhile p).drop (r.takeWhile p).length = r.dropWhile p := List.drop_left
  rwa [h] at h2
theorem sign_in : ∀ k : Fin 12, ∀ b : List UInt8, (Utf8.encode (signRunes.getD k.val 0 : Nat)).data.toList = b → signB b = true := by
  have h : ∀ k : Fin 12, signB (Utf8.encode (signRunes.getD k.val 0 : Nat)).data.toList = true := by decide +kernel
  intro k b hb
  rw [← hb]; exact h k
theorem take_head {c x : UInt8} {r t : List UInt8} {n : Nat} (h : (c :: r).take n = x :: t) : c = x ∧ r.take (n - 1) = t := by
  cases n with
  | zero => simp at h
  | succ n => simpa using h
theorem signB_is (c : UInt8) (r : List UInt8) : signB ((c :: r).take (decodeL (c :: r)).2) = isSign (decodeL (c :: r)).1 := by
  cases hs : isSign (decodeL (c :: r)).1
  · cases hb : signB ((c :: r).take (decodeL (c :: r)).2)
    · rfl
    · exfalso
      have one : ∀ x : UInt8, (c :: r).take (decodeL (c :: r)).2 = [x] → x.toNat < 128 → isSign x.toNat = true → False := by
        intro x hx h1 h2
        obtain ⟨rfl, _⟩ := take_head hx
        rw [Lib.decodeL_ascii c r h1] at hs
        rw [h2] at hs; cases hs
      simp only [signB, signTexts, List.contains_eq_mem, List.mem_cons, List.not_mem_nil, or_false, decide_eq_true_eq] at hb
      rcases hb with hb | hb | hb | hb | hb | hb | hb | hb | hb | hb | hb | hb
      · obtain ⟨rfl, h2⟩ := take_head hb
        rcases r with _ | ⟨c2, r⟩
        · simp at h2
        obtain ⟨rfl, h3⟩ := take_head h2
        rcases r with _ | ⟨c3, r⟩
        · simp at h3
        obtain ⟨rfl, _⟩ := take_head h3
        have hd : decodeL (226 :: 134 :: 144 :: r) = (8592, 3) := by
          rw [Lib.decodeL_N]
          simp [decodeN]
        rw [hd] at hs
        exact absurd hs (by decide)
      · exact one 43 hb (by decide) (by decide)
      · exact one 45 hb (by decide) (by decide)
      · obtain ⟨rfl, h2⟩ := take_head hb
        rcases r with _ | ⟨c2, r⟩
        · simp at h2
        obtain ⟨rfl, h3⟩ := take_head h2
        have hd : decodeL (195 :: 151 :: r) = (215, 2) := by
          rw [Lib.decodeL_N]
          simp [decodeN]
        rw [hd] at hs
        exact absurd hs (by decide)
      all_goals first | exact one _ hb (by decide) (by decide)
  · have hf := runesOf_fits _ (c :: r) (Nat.le_refl _) ((decodeL (c :: r)).1, (c :: r).take (decodeL (c :: r)).2) (by rw [runesOf_cons (by simp)]; simp)
    have hb := hf.2.2 hs
    simp only at hb
    rw [hb]
    obtain ⟨k, hk, hc⟩ := isSign_mem.1 hs
    obtain ⟨z, hz⟩ : ∃ z, signRunes.getD (⟨k, hk⟩ : Fin 12).val 0 = z := ⟨_, rfl⟩
    have hsi := sign_in ⟨k, hk⟩
    rw [hz] at hsi
    have hz2 : z = (decodeL (c :: r)).1 := by rw [← hz]; exact hc
    rw [← hz2]
    exact hsi _ rfl
theorem shut_one {q : RSt} {pos : Nat} {w : List UInt8} (hr : q.run = none) (hl : q.list.length < 16384) :
    ((oneP w pos q.line).2 ≠ 0 → (shutR { q with run := some (pos, w) }).2.1 = (oneP w pos q.line).2 ∧ (shutR { q with run := some (pos, w) }).1 = pos) ∧
    ((oneP w pos q.line).2 = 0 → (shutR { q with run := some (pos, w) }).2.1 = 0 ∧ (shutR { q with run := some (pos, w) }).2.2 = stepQ q (oneP w pos q.line).1 true) := by
  obtain ⟨list, line, run, remark⟩ := q
  simp only at hr hl ⊢
  subst hr
  unfold shutR oneP
  simp only
  by_cases hh : headR w = true
  · rw [if_pos hh, if_pos hh]
    cases hn : numP w with
    | none => exact ⟨fun _ => ⟨rfl, rfl⟩, fun h => absurd h (show (22 : Int) ≠ 0 by decide)⟩
    | some n =>
      refine ⟨fun h => absurd rfl h, fun _ => ?_⟩
      simp only
      rw [putR_ok _ (by exact hl)]
      exact ⟨rfl, rfl⟩
  · rw [if_neg hh, if_neg hh]
    by_cases h24 : 24 < w.length
    · rw [if_pos h24, if_pos h24]
      exact ⟨fun _ => ⟨rfl, rfl⟩, fun h => absurd h (show (21 : Int) ≠ 0 by decide)⟩
    · rw [if_neg h24, if_neg h24]
      refine ⟨fun h => absurd rfl h, fun _ => ?_⟩
      rw [putR_ok _ (by exact hl)]
      exact ⟨rfl, rfl⟩
/-- One step of the reference's lexer. -/
theorem next_step {rest : List UInt8} {pos : Nat} {q : RSt} (hne : rest ≠ []) (hr : q.run = none) (hm : q.remark = false) (hl : q.list.length < 16384) {t : Tok} {is : Bool} {n : Nat} {e : Int} (hN : nextP rest pos q.line = (t, is, n, e)) :
    1 ≤ n ∧ n ≤ rest.length ∧ (e ≠ 0 → lexR (runesOf rest) pos q = ([], (pos : Int), e)) ∧ (e = 0 → lexR (runesOf rest) pos q = lexR (runesOf (rest.drop n)) (pos + n) (stepQ q t is)) ∧ (is = true → e = 0) := by
  rcases rest with _ | ⟨c, r⟩
  · exact absurd rfl hne
  unfold nextP at hN
  by_cases hrun : runByte c = true
  · have hlen : runLen (c :: r) = 1 + (r.takeWhile moreByte).length := by rw [runLen, if_pos hrun]
    have hw : (c :: r).take (runLen (c :: r)) = c :: r.takeWhile moreByte := by
      rw [hlen, Nat.add_comm, List.take_succ_cons, take_tw]
    have hd : (c :: r).drop (runLen (c :: r)) = r.dropWhile moreByte := by
      rw [hlen, Nat.add_comm, List.drop_succ_cons, drop_tw]
    have hle : (r.takeWhile moreByte).length ≤ r.length := by
      have := congrArg List.length (List.takeWhile_append_dropWhile (p := moreByte) (l := r))
      rw [List.length_append] at this; omega
    rw [if_pos (by rw [hlen]; omega), hw] at hN
    injection hN with h1 h2
    injection h2 with h2 h3
    injection h3 with h3 h4
    subst h1; subst h2; subst h3; subst h4
    have hsplit : lexR (runesOf (c :: r)) pos q = lexR (runesOf (r.dropWhile moreByte)) (pos + (c :: r.takeWhile moreByte).length) { q with run := some (pos, c :: r.takeWhile moreByte) } := by
      conv => lhs; rw [← List.takeWhile_append_dropWhile (p := moreByte) (l := r)]
      rw [← List.cons_append]
      exact lexR_run _ c _ pos q hrun (takeWhile_all r) hr hm
    have hc := closeAny (pos := pos + (c :: r.takeWhile moreByte).length) (st := { q with run := some (pos, c :: r.takeWhile moreByte) }) (dropWhile_head (p := moreByte) r)
    have hso := shut_one (pos := pos) (w := c :: r.takeWhile moreByte) hr hl
    refine ⟨by omega, by rw [List.length_cons]; omega, fun he => ?_, fun he => ?_, fun h => by simpa using h⟩
    · obtain ⟨g1, g2⟩ := hso.1 he
      rw [hsplit, hc, g1, if_pos he, g2]
    · obtain ⟨g1, g2⟩ := hso.2 he
      rw [hsplit, hc, g1, if_neg (by simp), g2, hd, he]
      simp only [List.length_cons, beq_self_eq_true]
      rw [hlen, Nat.add_comm 1]
  · have hrun' : runByte c = false := by simpa using hrun
    have h0 : ¬ 0 < runLen (c :: r) := by rw [runLen, if_neg hrun]; omega
    rw [if_neg h0] at hN
    simp only at hN
    have hcons : runesOf (c :: r) = ((decodeL (c :: r)).1, (c :: r).take (decodeL (c :: r)).2) :: runesOf ((c :: r).drop (decodeL (c :: r)).2) := runesOf_cons (by simp)
    have hi : inR (decodeL (c :: r)).1 q = false := notIn hrun' (fun _ => hr)
    have hk1 := decodeL_pos (l := c :: r) (by simp)
    have hk2 := Lib.decodeL_le (c :: r) (by simp)
    obtain ⟨ha1, ha2⟩ := rune_head c r
    have hrune : ∀ b, runeR pos (decodeL (c :: r)).1 b q = restR pos (decodeL (c :: r)).1 q := fun b => by
      rw [runeR, hi, shutR_none hr]; simp
    have hval : ∀ m : Nat, m < 128 → ((decodeL (c :: r)).1 = m ↔ c.toNat = m) := by
      intro m hm'
      by_cases hs : c.toNat < 128
      · rw [ha1 hs]
      · have := ha2 hs
        constructor <;> intro h <;> omega
    have hbyte : ∀ m : UInt8, c = m ↔ c.toNat = m.toNat := fun m => ⟨fun h => by rw [h], fun h => UInt8.toNat_inj.1 h⟩
    unfold restP at hN
    by_cases h10 : c = 10
    · subst h10
      have hd : decodeL (10 :: r) = (10, 1) := ha1 (by decide)
      rw [if_pos rfl] at hN
      injection hN with h1 h2
      injection h2 with h2 h3
      injection h3 with h3 h4
      subst h1; subst h2; subst h3; subst h4
      refine ⟨Nat.le_refl _, by simp, fun h => absurd rfl h, fun _ => ?_, fun _ => rfl⟩
      rw [hcons, lexR, hrune, hd, restR, if_pos rfl, putR_ok _ (by exact hl)]
      simp only [ne_eq, not_true_eq_false, if_false]
      obtain ⟨list, line, run, remark⟩ := q
      simp only at hr hm
      subst hr; subst hm
      rfl
    rw [if_neg h10] at hN
    have g10 : (decodeL (c :: r)).1 ≠ 10 := fun e => h10 ((hbyte 10).2 ((hval 10 (by decide)).1 e))
    by_cases hbl : c = 32 ∨ c = 9 ∨ c = 13
    · rw [if_pos hbl] at hN
      injection hN with h1 h2
      injection h2 with h2 h3
      injection h3 with h3 h4
      subst h1; subst h2; subst h3; subst h4
      have hs : c.toNat < 128 := by rcases hbl with rfl | rfl | rfl <;> decide
      have hd : decodeL (c :: r) = (c.toNat, 1) := ha1 hs
      have gbl : c.toNat = 32 ∨ c.toNat = 9 ∨ c.toNat = 13 := by rcases hbl with rfl | rfl | rfl <;> simp
      rw [hd] at g10
      refine ⟨Nat.le_refl _, by simp, fun h => absurd rfl h, fun _ => ?_, fun h => by cases h⟩
      have hres : restR pos c.toNat q = (0, 0, q) := by rw [restR, if_neg g10, if_pos (.inr gbl)]
      rw [hcons, lexR, hrune, hd]
      simp only [hres, ne_eq, not_true_eq_false, if_false]
      rfl
    rw [if_neg hbl] at hN
    have gbl : ¬ ((decodeL (c :: r)).1 = 32 ∨ (decodeL (c :: r)).1 = 9 ∨ (decodeL (c :: r)).1 = 13) := by
      rintro (e | e | e)
      · exact hbl (.inl ((hbyte 32).2 ((hval 32 (by decide)).1 e)))
      · exact hbl (.inr (.inl ((hbyte 9).2 ((hval 9 (by decide)).1 e))))
      · exact hbl (.inr (.inr ((hbyte 13).2 ((hval 13 (by decide)).1 e))))
    by_cases h35 : c = 35
    · subst h35
      rw [if_pos rfl] at hN
      injection hN with h1 h2
      injection h2 with h2 h3
      injection h3 with h3 h4
      subst h1; subst h2; subst h3; subst h4
      have hle : (r.takeWhile (fun x => x != 10)).length ≤ r.length := by
        have := congrArg List.length (List.takeWhile_append_dropWhile (p := fun x : UInt8 => x != 10) (l := r))
        rw [List.length_append] at this; omega
      refine ⟨by omega, by rw [List.length_cons]; omega, fun h => absurd rfl h, fun _ => ?_, fun h => by cases h⟩
      have hd : decodeL (35 :: r) = (35, 1) := ha1 (by decide)
      have h35r : restR pos 35 q = (0, 0, { q with remark := true }) := by
        rw [restR, if_neg (by decide), if_neg (by rw [hm]; simp), if_pos rfl]
      rw [hcons, lexR, hrune, hd]
      simp only
      rw [h35r]
      simp only [ne_eq, not_true_eq_false, if_false, List.drop_succ_cons, List.drop_zero, List.take_succ_cons, List.take_zero, List.length_cons, List.length_nil]
      have hdd : (35 :: r).drop (1 + (r.takeWhile (fun x => x != 10)).length) = r.dropWhile (fun x => x != 10) := by
        rw [Nat.add_comm, List.drop_succ_cons, drop_tw]
      rw [hdd]
      have hhead : plainHead (r.dropWhile (fun x => x != 10)) ∧ (r.dropWhile (fun x => x != 10) = [] ∨ ∃ r', r.dropWhile (fun x => x != 10) = 10 :: r') := by
        rcases dropWhile_head (p := fun x : UInt8 => x != 10) r with h | ⟨y, r', h, hy⟩
        · exact ⟨.inl h, .inl h⟩
        · obtain rfl : y = 10 := by simpa using hy
          exact ⟨.inr ⟨10, r', h, by decide⟩, .inr ⟨r', h⟩⟩
      conv => lhs; rw [← List.takeWhile_append_dropWhile (p := fun x : UInt8 => x != 10) (l := r)]
      rw [runesOf_append _ hhead.1 _ _ (Nat.le_refl _), pass_remark _ _ _ { q with remark := true } (runes_no10 _ _ (Nat.le_refl _) (fun x hx => by simpa using takeWhile_all r x hx)) hr rfl, bytesOf_runes _ _ (Nat.le_refl _)]
      rw [show stepQ q tok0 false = q from rfl, show pos + (1 + (r.takeWhile (fun x => x != 10)).length) = pos + (0 + 1) + (r.takeWhile (fun x => x != 10)).length by omega]
      obtain ⟨list, line, run, remark⟩ := q
      simp only at hr hm
      subst hr; subst hm
      rcases hhead.2 with h | ⟨r', h⟩
      · rw [h]; rfl
      · rw [h, runesOf_ascii 10 r' (by decide)]
        simp only [lexR]
        have hx : ∀ p, runeR p (10 : UInt8).toNat [10] { list := list, line := line, run := none, remark := true } = runeR p (10 : UInt8).toNat [10] { list := list, line := line, run := none, remark := false } := by
          intro p
          show runeR p 10 [10] _ = runeR p 10 [10] _
          rw [runeR, runeR, shutR_none rfl, shutR_none rfl]
          simp [inR, isLetter, isDigit, restR]
        rw [hx]
    rw [if_neg h35] at hN
    have g35 : (decodeL (c :: r)).1 ≠ 35 := fun e => h35 ((hbyte 35).2 ((hval 35 (by decide)).1 e))
    rw [signB_is] at hN
    have hlen : ((c :: r).take (decodeL (c :: r)).2).length = (decodeL (c :: r)).2 := by rw [List.length_take]; omega
    cases hsg : isSign (decodeL (c :: r)).1
    · rw [hsg, if_neg (by simp)] at hN
      injection hN with h1 h2
      injection h2 with h2 h3
      injection h3 with h3 h4
      subst h1; subst h2; subst h3; subst h4
      refine ⟨hk1, hk2, fun _ => ?_, fun h => absurd h (by decide), fun h => by cases h⟩
      have hres : restR pos (decodeL (c :: r)).1 q = ((pos : Int), 20, q) := by rw [restR, if_neg g10, if_neg (by rw [hm]; simpa using gbl), if_neg g35, hsg, if_neg (by simp)]
      rw [hcons, lexR, hrune, hres, if_pos (show (20 : Int) ≠ 0 by decide)]
    · rw [hsg, if_pos rfl] at hN
      have hf := runesOf_fits _ (c :: r) (Nat.le_refl _) ((decodeL (c :: r)).1, (c :: r).take (decodeL (c :: r)).2) (by rw [hcons]; simp)
      have hb := hf.2.2 hsg
      simp only at hb
      injection hN with h1 h2
      injection h2 with h2 h3
      injection h3 with h3 h4
      subst h1; subst h2; subst h3; subst h4
      refine ⟨hk1, hk2, fun h => absurd rfl h, fun _ => ?_, fun _ => rfl⟩
      have hbx : (⟨((c :: r).take (decodeL (c :: r)).2).toArray⟩ : ByteArray) = Utf8.encode ((decodeL (c :: r)).1 : Int) := (congrArg (fun l : List UInt8 => (⟨l.toArray⟩ : ByteArray)) hb).trans (mk_toList _)
      have hres : restR pos (decodeL (c :: r)).1 q = ((pos : Int), putR q ⟨2, Utf8.encode ((decodeL (c :: r)).1 : Int), 0, pos, 0⟩) := by
        rw [restR, if_neg g10, if_neg (by rw [hm]; simpa using gbl), if_neg g35, hsg, if_pos rfl]
      rw [hcons, lexR, hrune, hres, hlen, hbx]
      generalize Utf8.encode ((decodeL (c :: r)).1 : Int) = enc
      rw [putR_ok _ hl]
      simp only [ne_eq, not_true_eq_false, if_false]
      rfl
end Go.Proofs.YthdlihiehfkceaaDoor
