/-
  Chapter 2, plain: each token stands in the text where it is told to; the part ahead of a fault is read.
-/
import Derived.Test.YthfienjmajllpaaDoorLexL
namespace Go.Proofs.YthfienjmajllpaaDoor
open Go.RowKit
open Go.Lib (decodeL decodeN)
set_option linter.unusedVariables false

theorem numGo_inv : ∀ (l : List UInt8) (m n : Nat), numGo l m = some n → 0 < m → Lib.decDigits n = Lib.decDigits m ++ l
  | [], m, n, h, hm => by
    rw [numGo] at h
    injection h with h
    rw [h, List.append_nil]
  | c :: r, m, n, h, hm => by
    rw [numGo] at h
    split at h
    · rename_i hd
      simp only [isDigit, decide_eq_true_eq] at hd
      split at h
      · cases h
      · rw [numGo_inv r _ n h (by omega), Lib.decDigits, dif_neg (by omega), show (10 * m + (c.toNat - 48)) / 10 = m by omega, show 48 + (10 * m + (c.toNat - 48)) % 10 = c.toNat by omega, UInt8.ofNat_toNat, List.append_assoc]
        rfl
    · cases h
/-- A run that is a number's numeral is that number's digits. -/
theorem numP_inv {w : List UInt8} {n : Nat} (h : numP w = some n) (hw : w ≠ []) : Lib.decDigits n = w := by
  rcases w with _ | ⟨c, r⟩
  · exact absurd rfl hw
  · rw [numP] at h
    split at h
    · cases h
    · rename_i h48
      rw [numGo] at h
      split at h
      · rename_i hd
        simp only [isDigit, decide_eq_true_eq] at hd
        split at h
        · cases h
        · rw [Nat.mul_zero, Nat.zero_add] at h
          have hc : Lib.decDigits (c.toNat - 48) = [c] := by
            rw [Lib.decDigits, dif_pos (by omega), show 48 + (c.toNat - 48) = c.toNat by omega, UInt8.ofNat_toNat]
          rcases r with _ | ⟨c2, r⟩
          · rw [numGo] at h
            injection h with h
            rw [← h, hc]
          · have h0 : 0 < c.toNat - 48 := by
              have : c ≠ 48 := fun e => h48 ⟨by simp, by rw [e]; rfl⟩
              have h2 : c.toNat ≠ 48 := fun e => this (UInt8.toNat_inj.1 e)
              omega
            rw [numGo_inv _ _ n h h0, hc]
            rfl
      · cases h
theorem print_end {t : Tok} (h : t.kind = 3) : printP [t] = [10] := by simp [printP, printGo, h]
theorem print_text {t : Tok} (h : t.kind = 0 ∨ t.kind = 2) : printP [t] = t.text.data.toList := by
  rcases h with h | h <;> simp [printP, printGo, tokText, h]
theorem print_number {t : Tok} (h : t.kind = 1) : printP [t] = Lib.decDigits t.num.toNat := by simp [printP, printGo, tokText, h]

/-- The tokens stand in L one behind the other, from a place and a line on. -/
def okT (L : List UInt8) : List Tok → Nat → Nat → Prop
  | [], _, _ => True
  | t :: r, last, line => (∃ pre post, t.at_ = (pre.length : Nat) ∧ last ≤ pre.length ∧ t.line = (line : Nat) ∧ printP [t] ≠ [] ∧ L = pre ++ printP [t] ++ post) ∧
      okT L r (t.at_.toNat + (printP [t]).length) (if t.kind = 3 then line + 1 else line)
def lastT : List Tok → Nat → Nat
  | [], k => k
  | t :: r, k => lastT r (t.at_.toNat + (printP [t]).length)
def lineT : List Tok → Nat → Nat
  | [], k => k
  | t :: r, k => lineT r (if t.kind = 3 then k + 1 else k)
theorem lastT_snoc (t : Tok) : ∀ (l : List Tok) (k : Nat), lastT (l ++ [t]) k = t.at_.toNat + (printP [t]).length
  | [], k => rfl
  | x :: r, k => lastT_snoc t r _
theorem lineT_snoc (t : Tok) : ∀ (l : List Tok) (k : Nat), lineT (l ++ [t]) k = if t.kind = 3 then lineT l k + 1 else lineT l k
  | [], k => rfl
  | x :: r, k => lineT_snoc t r _
theorem okT_snoc {L pre post : List UInt8} {t : Tok} (ha : t.at_ = (pre.length : Nat)) (hp : printP [t] ≠ []) (hL : L = pre ++ printP [t] ++ post) : ∀ (l : List Tok) (last line : Nat), okT L l last line → lastT l last ≤ pre.length → t.line = (lineT l line : Nat) → okT L (l ++ [t]) last line
  | [], last, line, h, h1, h2 => ⟨⟨pre, post, ha, h1, h2, hp, hL⟩, trivial⟩
  | x :: r, last, line, h, h1, h2 => ⟨h.1, okT_snoc ha hp hL r _ _ h.2 h1 h2⟩
theorem put_place {L pre w post : List UInt8} {q : RSt} {tok : Tok} (h : okT L q.list 0 0) (hl : lineT q.list 0 = q.line) (hk : lastT q.list 0 ≤ pre.length) (ha : tok.at_ = (pre.length : Nat))
    (hp : ∀ k, printP [{ tok with line := k }] = w) (hw : w ≠ []) (hL : L = pre ++ w ++ post) (he : (putR q tok).1 = 0) :
    okT L (putR q tok).2.list 0 0 ∧ lastT (putR q tok).2.list 0 = pre.length + w.length ∧ lineT (putR q tok).2.list 0 = (if tok.kind = 3 then q.line + 1 else q.line) ∧ (putR q tok).2.line = q.line := by
  unfold putR at he ⊢
  split at he
  · cases he
  · rename_i hn
    rw [if_neg hn]
    refine ⟨?_, ?_, ?_, rfl⟩
    · exact okT_snoc (t := { tok with line := q.line }) ha (by rw [hp]; exact hw) (by rw [hp]; exact hL) _ 0 0 h hk (by show (q.line : Int) = _; rw [hl])
    · simp only
      rw [lastT_snoc, hp]
      show tok.at_.toNat + _ = _
      rw [ha]; rfl
    · simp only
      rw [lineT_snoc, hl]
/-- What holds of the lexer's state behind the bytes pre of L. -/
structure PI (L : List UInt8) (q : RSt) (pre : List UInt8) : Prop where
  ok : okT L q.list 0 0
  line : lineT q.list 0 = q.line
  run : ∀ a w, q.run = some (a, w) → w ≠ [] ∧ ∃ p0, pre = p0 ++ w ∧ p0.length = a ∧ lastT q.list 0 ≤ a
  none : q.run = none → lastT q.list 0 ≤ pre.length
theorem shut_pl {L pre post : List UInt8} {q : RSt} (h : PI L q pre) (hL : L = pre ++ post) (he : (shutR q).2.1 = 0) : PI L (shutR q).2.2 pre := by
  rcases hr : q.run with _ | ⟨a, w⟩
  · rw [shutR_none hr]; exact h
  · obtain ⟨hw, p0, hpre, hp0, hla⟩ := h.run a w hr
    have hL' : L = p0 ++ w ++ post := by rw [hL, hpre]
    have hlen : pre.length = p0.length + w.length := by rw [hpre, List.length_append]
    have key : ∀ tok : Tok, tok.at_ = (a : Nat) → (∀ k, printP [{ tok with line := k }] = w) → tok.kind ≠ 3 → (putR { q with run := none } tok).1 = 0 → PI L (putR { q with run := none } tok).2 pre := by
      intro tok h1 h2 h3 h4
      obtain ⟨k1, k2, k3, k4⟩ := put_place (q := { q with run := none }) h.ok h.line (by rw [hp0]; exact hla) (by rw [h1, hp0]) h2 hw hL' h4
      rw [if_neg h3] at k3
      exact ⟨k1, by rw [k3, k4], fun a w e => (by rw [putR_run] at e; cases e), fun _ => by rw [k2, hlen]; exact Nat.le_refl _⟩
    unfold shutR at he ⊢
    rw [hr] at he ⊢
    simp only at he ⊢
    split at he
    · rename_i hh
      rw [if_pos hh]
      split at he
      · cases he
      · rename_i n hn
        exact key _ rfl (fun k => by rw [print_number rfl]; exact numP_inv hn hw) (show (1 : Int) ≠ 3 by decide) he
    · rename_i hh
      rw [if_neg hh]
      split at he
      · cases he
      · rename_i h24
        rw [if_neg h24]
        exact key _ rfl (fun k => by rw [print_text (.inl rfl)]) (show (0 : Int) ≠ 3 by decide) he
theorem rune_pl {L pre b post : List UInt8} {c : Nat} {q : RSt} (h : PI L q pre) (hL : L = pre ++ b ++ post) (hb : b ≠ []) (h10 : c = 10 → b = [10]) (hs : isSign c = true → b = (Utf8.encode (c : Int)).data.toList)
    (he : (runeR pre.length c b q).2.1 = 0) : PI L (runeR pre.length c b q).2.2 (pre ++ b) := by
  have hk := shutR_kept q
  unfold runeR at he ⊢
  split at he
  · rename_i hi
    rw [if_pos hi]
    refine ⟨h.ok, h.line, fun a w e => ?_, fun e => ?_⟩
    · simp only [growR] at e
      rcases hr : q.run with _ | ⟨a', w'⟩
      · rw [hr] at e
        simp only [Option.some.injEq, Prod.mk.injEq] at e
        obtain ⟨rfl, rfl⟩ := e
        exact ⟨hb, pre, rfl, rfl, h.none hr⟩
      · rw [hr] at e
        simp only [Option.some.injEq, Prod.mk.injEq] at e
        obtain ⟨rfl, rfl⟩ := e
        obtain ⟨hw, p0, hp, hp0, hla⟩ := h.run _ _ hr
        exact ⟨by simp [hb], p0, by rw [hp, List.append_assoc], hp0, hla⟩
    · simp only [growR] at e
      rcases hr : q.run with _ | ⟨a', w'⟩ <;> (rw [hr] at e; cases e)
  · rename_i hi
    rw [if_neg hi]
    split at he
    · rename_i hne
      exact absurd he hne
    · rename_i hne
      rw [if_neg hne]
      have h1 := shut_pl (post := b ++ post) h (by rw [hL, List.append_assoc]) (Decidable.not_not.1 hne)
      generalize (shutR q).2.2 = q1 at h1 hk he
      have hr1 := hk.1
      have hl1 := h1.none hr1
      have wk : ∀ q2 : RSt, q2.list = q1.list → q2.line = q1.line → q2.run = q1.run → PI L q2 (pre ++ b) := fun q2 e1 e2 e3 =>
        ⟨by rw [e1]; exact h1.ok, by rw [e1, e2]; exact h1.line, fun a w e => (by rw [e3, hr1] at e; cases e), fun _ => by rw [e1, List.length_append]; omega⟩
      unfold restR at he ⊢
      split at he
      · rename_i hc
        rw [if_pos hc]
        obtain ⟨k1, k2, k3, k4⟩ := put_place (q := { q1 with remark := false }) (tok := { kind := 3, text := ⟨#[]⟩, num := 0, at_ := pre.length, line := 0 }) h1.ok h1.line hl1 rfl (fun k => by rw [print_end rfl]) (by simp : ([10] : List UInt8) ≠ []) (by rw [hL, h10 hc]) he
        rw [if_pos rfl] at k3
        refine ⟨k1, ?_, fun a w e => ?_, fun _ => ?_⟩
        · show lineT _ 0 = _ + 1
          rw [k3, k4]
        · have : (putR { q1 with remark := false } { kind := 3, text := ⟨#[]⟩, num := 0, at_ := pre.length, line := 0 }).2.run = some (a, w) := e
          rw [putR_run] at this
          simp only at this
          rw [hr1] at this; cases this
        · rw [h10 hc]
          show lastT _ 0 ≤ _
          rw [k2, List.length_append]
          exact Nat.le_refl _
      · rename_i hc
        rw [if_neg hc]
        split at he
        · rename_i hc2
          rw [if_pos hc2]
          exact wk _ rfl rfl rfl
        · rename_i hc2
          rw [if_neg hc2]
          split at he
          · rename_i hc3
            rw [if_pos hc3]
            exact wk _ rfl rfl rfl
          · rename_i hc3
            rw [if_neg hc3]
            split at he
            · rename_i hc4
              rw [if_pos hc4]
              have hbs := hs hc4
              have hz : ∀ k, printP [{ ({ kind := 2, text := Utf8.encode (c : Int), num := 0, at_ := pre.length, line := 0 } : Tok) with line := k }] = b := fun k => by rw [print_text (.inr rfl), hbs]
              generalize hg : ({ kind := 2, text := Utf8.encode (c : Int), num := 0, at_ := pre.length, line := 0 } : Tok) = tok at he hz ⊢
              have ht1 : tok.at_ = (pre.length : Nat) := by rw [← hg]
              have ht2 : tok.kind ≠ 3 := by rw [← hg]; exact (show (2 : Int) ≠ 3 by decide)
              clear hg
              obtain ⟨k1, k2, k3, k4⟩ := put_place (q := q1) (tok := tok) h1.ok h1.line hl1 ht1 hz hb hL he
              rw [if_neg ht2] at k3
              exact ⟨k1, by rw [k3, k4], fun a w e => (by rw [putR_run, hr1] at e; cases e), fun _ => by rw [k2, List.length_append]; exact Nat.le_refl _⟩
            · cases he
/-- A rune and its bytes, as the lexer needs them. -/
def Fits (y : Nat × List UInt8) : Prop := y.2 ≠ [] ∧ (y.1 = 10 → y.2 = [10]) ∧ (isSign y.1 = true → y.2 = (Utf8.encode (y.1 : Int)).data.toList)
def flatR (x : List (Nat × List UInt8)) : List UInt8 := x.flatMap (·.2)
theorem lexR_pl (L : List UInt8) : ∀ (x : List (Nat × List UInt8)) (pre : List UInt8) (q : RSt), L = pre ++ flatR x → (∀ y ∈ x, Fits y) → PI L q pre → (lexR x pre.length q).2.2 = 0 → okT L (lexR x pre.length q).1 0 0
  | [], pre, q, hL, hx, h, he => by
    rw [lexR, endR] at he ⊢
    split at he
    · rename_i hn; exact absurd he hn
    · rename_i hn
      rw [if_neg hn]
      exact (shut_pl (post := []) h (by rw [hL]; rfl) (Decidable.not_not.1 hn)).ok
  | (c, b) :: r, pre, q, hL, hx, h, he => by
    obtain ⟨h1, h2, h3⟩ := hx (c, b) (by simp)
    have hL' : L = pre ++ b ++ flatR r := by rw [hL, List.append_assoc]; rfl
    rw [lexR] at he ⊢
    split at he
    · rename_i hn; exact absurd he hn
    · rename_i hn
      rw [if_neg hn]
      have hp := rune_pl h hL' h1 h2 h3 (Decidable.not_not.1 hn)
      have := lexR_pl L r (pre ++ b) _ hL' (fun y hy => hx y (by simp [hy])) hp (by rw [List.length_append]; exact he)
      rwa [List.length_append] at this
theorem flat_runes : ∀ (n : Nat) (l : List UInt8), l.length ≤ n → flatR (runesOf l) = l
  | 0, l, hn => by
    obtain rfl : l = [] := List.eq_nil_of_length_eq_zero (by omega)
    rfl
  | n + 1, l, hn => by
    by_cases hl : l = []
    · subst hl; rfl
    · have hp := decodeL_pos hl
      have h0 : 0 < l.length := List.length_pos_iff.2 hl
      rw [runesOf_cons hl]
      show l.take _ ++ flatR _ = l
      rw [flat_runes n _ (by rw [List.length_drop]; omega), List.take_append_drop]
theorem sign_code : ∀ k : Fin 12, ∀ b : List UInt8, (Utf8.encode (signRunes.getD k.val 0 : Nat)).data.toList = b → Lib.encodeRune (signRunes.getD k.val 0 : Nat) = b ∧ signRunes.getD k.val 0 ≠ 65533 := by
  have h : ∀ k : Fin 12, Lib.encodeRune (signRunes.getD k.val 0 : Nat) = (Utf8.encode (signRunes.getD k.val 0 : Nat)).data.toList ∧ signRunes.getD k.val 0 ≠ 65533 := by decide +kernel
  intro k b hb
  rw [← hb]; exact h k
theorem runesOf_fits : ∀ (n : Nat) (l : List UInt8), l.length ≤ n → ∀ x ∈ runesOf l, Fits x
  | 0, l, hn, x, hx => by
    obtain rfl : l = [] := List.eq_nil_of_length_eq_zero (by omega)
    simp [runesOf_nil] at hx
  | n + 1, l, hn, x, hx => by
    by_cases hl : l = []
    · subst hl; simp [runesOf_nil] at hx
    · have hs := runesOf_some (n + 1) l hn x hx
      have hpr := runesOf_proper (n + 1) l hn x hx
      have hp := decodeL_pos hl
      have h0 : 0 < l.length := List.length_pos_iff.2 hl
      rw [runesOf_cons hl] at hx
      rcases List.mem_cons.1 hx with rfl | hx
      · refine ⟨fun e => by rw [e] at hs; simp at hs, fun e => ?_, fun e => ?_⟩
        · obtain ⟨y, hy, hy2⟩ := hpr (by rw [e]; decide)
          rw [hy, UInt8.toNat_inj.1 (show y.toNat = (10 : UInt8).toNat by rw [hy2, e]; rfl)]
        · simp only at e ⊢
          obtain ⟨k, hk, hc⟩ := isSign_mem.1 e
          obtain ⟨g1, g2⟩ := sign_code ⟨k, hk⟩ _ rfl
          simp only at g1 g2
          rw [hc] at g1 g2
          rw [← g1, Lib.encode_decode l hl (fun e => g2 e.1)]
      · exact runesOf_fits n _ (by rw [List.length_drop]; omega) x hx
theorem lexP_ok {s : ByteArray} {l : List Tok} {p : Int} (h : lexP s = (l, p, 0)) (hs : s.size ≤ 65536) : okT s.data.toList l 0 0 := by
  rw [lexP_R s hs] at h
  have h1 := lexR_pl s.data.toList (runesOf s.data.toList) [] r0 (flat_runes _ _ (Nat.le_refl _)).symm (runesOf_fits _ _ (Nat.le_refl _)) ⟨trivial, rfl, fun a w e => by simp [r0] at e, fun _ => Nat.le_refl _⟩ (by show (lexR _ 0 r0).2.2 = 0; rw [h])
  have h2 : okT s.data.toList (lexR (runesOf s.data.toList) 0 r0).1 0 0 := h1
  rwa [h] at h2
/-- Ahead of a fault, up to a line's end, the text is read. -/
theorem lines_ok {X Y : List UInt8} {p e : Int} {l : List Tok} (hX : X = [] ∨ ∃ X', X = X' ++ [10]) (h : lexR (runesOf (X ++ Y)) 0 r0 = (l, p, e)) (he : e ≠ 0) (hp : (X.length : Int) ≤ p) : (lexR (runesOf X) 0 r0).2.2 = 0 := by
  rcases hX with rfl | ⟨X', rfl⟩
  · rfl
  · have ha : runesOf (X' ++ [10] ++ Y) = (runesOf X' ++ [(10, [10])]) ++ runesOf Y := by
      rw [List.append_assoc, List.singleton_append, runesOf_append (10 :: Y) (.inr ⟨10, _, rfl, by decide⟩) _ X' (Nat.le_refl _), runesOf_ascii 10 Y (by decide), List.append_assoc]
      rfl
    have hb : runesOf (X' ++ [10]) = runesOf X' ++ [(10, [10])] := by
      rw [runesOf_append [10] (.inr ⟨10, _, rfl, by decide⟩) _ X' (Nat.le_refl _)]
      rfl
    have hlen : bytesOf (runesOf X' ++ [(10, [10])]) = (X' ++ [10]).length := by rw [← hb]; exact bytesOf_runes _ _ (Nat.le_refl _)
    have hpl := lexR_place (runesOf (X' ++ [10])) 0 r0 (runesOf_some _ _ (Nat.le_refl _)) (fun a w e => by simp [r0] at e)
    rw [hb] at hpl ⊢
    rw [ha, lexR_app] at h
    rw [hlen, Nat.zero_add] at hpl
    rw [lexR_end] at hpl ⊢
    by_cases h1 : (stR (runesOf X' ++ [(10, [10])]) 0 r0).2.1 ≠ 0
    · rw [if_pos h1] at h hpl
      have := (hpl h1).2
      injection h with _ h
      injection h with h _
      simp only at this
      omega
    · rw [if_neg h1]
      have hrun : ∀ (x : List (Nat × List UInt8)) (pos : Nat) (q : RSt), (stR (x ++ [(10, [10])]) pos q).2.1 = 0 → (stR (x ++ [(10, [10])]) pos q).2.2.run = none := by
        intro x
        induction x with
        | nil =>
          intro pos q hq
          have hk := shutR_kept q
          have hi : inR 10 q = false := by simp [inR, isLetter, isDigit]
          show (stR [(10, [10])] pos q).2.2.run = none
          have hq' : (stR [(10, [10])] pos q).2.1 = 0 := hq
          rw [stR] at hq' ⊢
          split at hq'
          · rename_i hn; exact absurd hq' hn
          · rename_i hn
            rw [if_neg hn]
            show (runeR pos 10 [10] q).2.2.run = none
            have hn' : (runeR pos 10 [10] q).2.1 = 0 := Decidable.not_not.1 hn
            rw [runeR, hi] at hn' ⊢
            simp only [Bool.false_and, Bool.false_eq_true, if_false] at hn' ⊢
            split at hn'
            · rename_i h3; exact absurd hn' h3
            · rename_i h3
              rw [if_neg h3]
              show (putR _ _).2.run = none
              rw [putR_run]
              exact hk.1
        | cons y x ih =>
          intro pos q hq
          rw [List.cons_append, stR] at hq ⊢
          split at hq
          · rename_i hn; exact absurd hq hn
          · rename_i hn
            rw [if_neg hn]
            exact ih _ _ hq
      rw [endR, shutR_none (hrun _ _ _ (Decidable.not_not.1 h1))]
      rfl
theorem lexP_lines {s : ByteArray} {l : List Tok} {p e : Int} (h : lexP s = (l, p, e)) (hs : s.size ≤ 65536) (he : e ≠ 0) (k : Nat) (hk : (k : Int) ≤ p) (hb : k = 0 ∨ s.data.toList[k - 1]? = some 10) :
    ∃ l' p', lexP (s.extract 0 k) = (l', p', 0) := by
  have hp := lexP_place h hs he
  have hsz : s.data.toList.length = s.size := rfl
  have hx : (s.extract 0 k).data.toList = s.data.toList.take k := by simp
  have hz : (s.extract 0 k).size = k := by
    have : (s.extract 0 k).data.toList.length = (s.extract 0 k).size := rfl
    rw [← this, hx, List.length_take]; omega
  rw [lexP_R s hs] at h
  have hX : s.data.toList.take k = [] ∨ ∃ X', s.data.toList.take k = X' ++ [10] := by
    rcases hb with rfl | hb
    · exact .inl (by simp)
    · rcases Nat.eq_zero_or_pos k with rfl | h0
      · exact .inl (by simp)
      · refine .inr ⟨s.data.toList.take (k - 1), ?_⟩
        rw [show k = (k - 1) + 1 by omega, List.take_add_one, show k - 1 + 1 - 1 = k - 1 by omega, hb]
        rfl
  have h0 := lines_ok (X := s.data.toList.take k) (Y := s.data.toList.drop k) hX (by rw [List.take_append_drop]; exact h) he (by rw [List.length_take]; omega)
  rw [← hx, ← lexP_R _ (by omega)] at h0
  obtain ⟨l', p', e', hl⟩ : ∃ l' p' e', lexP (s.extract 0 k) = (l', p', e') := ⟨_, _, _, rfl⟩
  rw [hl] at h0
  exact ⟨l', p', by rw [hl]; simp only at h0; rw [h0]⟩
end Go.Proofs.YthfienjmajllpaaDoor
