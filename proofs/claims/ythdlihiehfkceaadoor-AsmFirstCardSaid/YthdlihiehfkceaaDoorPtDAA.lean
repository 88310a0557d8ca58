/-
  Texts of one proof, joined (wip/gen/pack.py): FirP, LawA4.
-/
import Derived.Test.YthdlihiehfkceaaDoorPtBAB
namespace Go.Proofs.YthdlihiehfkceaaDoor
open Go.RowKit
set_option linter.unusedVariables false

/-- One text, a line's end, another one: their tokens. -/
theorem lex_nl (A B : List UInt8) (hl : A.length + 1 + B.length < 16384) (hA : (lexR (runesOf A) 0 r0).2.2 = 0) : ∃ n k,
    lexR (runesOf (A ++ 10 :: B)) 0 r0 = if (lexR (runesOf B) 0 r0).2.2 = 0 then ((lexR (runesOf A) 0 r0).1 ++ (⟨3, ⟨#[]⟩, 0, (A.length : Nat), n⟩ :: (lexR (runesOf B) 0 r0).1.map (moveT k (A.length + 1))), 0, 0)
      else ([], (lexR (runesOf B) 0 r0).2.1 + ((A.length + 1 : Nat) : Int), (lexR (runesOf B) 0 r0).2.2) := by
  have hpl : plainHead (10 :: B) := .inr ⟨10, B, rfl, by decide⟩
  have happ := lexR_app (runesOf (10 :: B)) (runesOf A) 0 r0
  rw [← runesOf_append (10 :: B) hpl _ A (Nat.le_refl _), bytesOf_runes _ A (Nat.le_refl _), Nat.zero_add] at happ
  have hend := lexR_end (runesOf A) 0 r0
  have hforms := lexR_forms (runesOf A) 0 0 r0 ⟨fun t ht => by simp [r0] at ht, fun a w e => (by cases e), by simp [r0]⟩ (runesOf_proper _ _ (Nat.le_refl _))
  have hrl := runesOf_length _ A (Nat.le_refl _)
  rw [happ]
  by_cases h1 : (stR (runesOf A) 0 r0).2.1 ≠ 0
  · rw [if_pos h1] at hend
    rw [hend] at hA
    exact absurd hA h1
  · rw [if_neg h1] at hend
    rw [if_neg h1, hend]
    rw [hend] at hA hforms
    generalize (stR (runesOf A) 0 r0).2.2 = qa at hend hA hforms ⊢
    have h2 : (shutR qa).2.1 = 0 := by
      rcases Decidable.em ((shutR qa).2.1 = 0) with h | h
      · exact h
      · have he : endR qa = ([], (shutR qa).1, (shutR qa).2.1) := by rw [endR, if_pos h]
        rw [he] at hA; exact absurd hA h
    have he : endR qa = ((shutR qa).2.2.list, 0, 0) := by rw [endR, if_neg (by simp [h2])]
    rw [he] at hforms ⊢
    have hll : (shutR qa).2.2.list.length ≤ A.length := by have := hforms.2; simp only at this; omega
    have hclose := lexR_close (rest := 10 :: B) (.inr ⟨10, B, rfl, .inl rfl⟩) (pos := A.length) h2
    rw [hclose, runesOf_ascii 10 _ (by decide), lexR]
    have hr := (shutR_kept qa).1
    generalize (shutR qa).2.2 = q at hll hr ⊢
    rw [rune_nl hr (by omega)]
    simp only [ne_eq, not_true_eq_false, if_false]
    have hm := lexR_move (q.list ++ [⟨3, ⟨#[]⟩, 0, (A.length : Nat), q.line⟩]) (q.line + 1) (A.length + [(10 : UInt8)].length) (runesOf B) 0 0 r0 ⟨fun t ht => by simp [r0] at ht, fun a w e => (by cases e), by simp [r0]⟩ (runesOf_proper _ _ (Nat.le_refl _)) (by have := runesOf_length _ B (Nat.le_refl _); simp; omega)
    have e0 : moveR (q.list ++ [⟨3, ⟨#[]⟩, 0, (A.length : Nat), q.line⟩]) (q.line + 1) (A.length + [(10 : UInt8)].length) r0 = { list := q.list ++ [⟨3, ⟨#[]⟩, 0, (A.length : Nat), q.line⟩], line := q.line + 1, run := none, remark := false } := by simp [moveR, r0]
    rw [e0, Nat.zero_add] at hm
    refine ⟨q.line, q.line + 1, ?_⟩
    rw [hm]
    by_cases hB : (lexR (runesOf B) 0 r0).2.2 = 0
    · rw [if_pos hB, if_pos hB]
      simp
    · rw [if_neg hB, if_neg hB]
      rfl
theorem linesGo_map (f : Tok → Tok) (hf : ∀ t, (f t).kind = t.kind) : ∀ (l cur : List Tok), linesGo (l.map f) (cur.map f) = (linesGo l cur).map (List.map f)
  | [], cur => by
    rw [List.map_nil, linesGo, linesGo]
    cases cur <;> simp
  | t :: l, cur => by
    rw [List.map_cons, linesGo, linesGo, hf]
    split
    · rw [List.map_cons, ← linesGo_map f hf l []]; rfl
    · have := linesGo_map f hf l (cur ++ [t])
      rw [List.map_append] at this
      exact this
theorem linesGo_full (e : Tok) (he : e.kind = 3) (r : List Tok) : ∀ (l cur : List Tok), fullL (linesGo (l ++ e :: r) cur) = fullL (linesGo l cur) ++ fullL (linesGo r [])
  | [], cur => by
    rw [List.nil_append, linesGo.eq_2, if_pos he, linesGo.eq_1]
    cases cur with
    | nil => rfl
    | cons x cur => rfl
  | t :: l, cur => by
    rw [List.cons_append, linesGo, linesGo]
    split
    · cases cur with
      | nil => exact linesGo_full e he r l []
      | cons x cur =>
        have := linesGo_full e he r l []
        show (x :: cur) :: fullL _ = (x :: cur) :: fullL _ ++ _
        rw [this]; rfl
    · exact linesGo_full e he r l _
theorem read_nl {la lb : List Tok} {e : Tok} (he : e.kind = 3) {p p' : Prg} {y : Int} (h : readGo (linesP la) p = (p', y, 0)) : readGo (linesP (la ++ e :: lb)) p = readGo (linesP lb) p' := by
  rw [readGo_full (linesP (la ++ e :: lb))]
  unfold linesP at h ⊢
  rw [linesGo_full e he]
  rw [readGo_full] at h
  rw [readGo_app _ _ _ (by rw [h]), h, ← readGo_full]
theorem era_eq {t u : Tok} (h : t.kind = u.kind ∧ t.text = u.text ∧ t.num = u.num) : t.era = u.era := by
  unfold Tok.era
  rw [h.1, h.2.1, h.2.2]
theorem move_era (k d : Nat) (l : List Tok) : (l.map (moveT k d)).map Tok.era = l.map Tok.era := by
  rw [List.map_map]; rfl
/-- A line that means nothing, behind a text that is read. -/
theorem asm_junk {A B : List UInt8} {code : List Ins} {a : Int} (hA : asmP ⟨A.toArray⟩ = (code, a, 0)) (hl : A.length + 1 + B.length < 16384)
    {lb : List Tok} (hB : lexR (runesOf B) 0 r0 = (lb, 0, 0)) {l : List Tok} {L : List (List Tok)} (hL : linesP lb = l :: L) (hn : l ≠ []) (hp : parseP l = none) (hat : l.head?.map Tok.at_ = some 0) :
    asmP ⟨(A ++ 10 :: B).toArray⟩ = ([], ((A.length + 1 : Nat) : Int), 23) := by
  obtain ⟨la, x, p, y, h1, h2, h3⟩ := asm_parts hA
  rw [lexP_R _ (by show A.toArray.size ≤ _; simp; omega)] at h1
  obtain ⟨n, k, hj⟩ := lex_nl A B hl (by rw [show (⟨A.toArray⟩ : ByteArray).data.toList = A from rfl] at h1; rw [h1])
  rw [show (⟨A.toArray⟩ : ByteArray).data.toList = A from rfl] at h1
  rw [h1, hB, if_pos rfl] at hj
  unfold asmP
  rw [lexP_R _ (by show (A ++ 10 :: B).toArray.size ≤ _; simp; omega)]
  rw [show (⟨(A ++ 10 :: B).toArray⟩ : ByteArray).data.toList = A ++ 10 :: B from rfl, hj]
  simp only [ne_eq, not_true_eq_false, if_false]
  rw [read_nl rfl h2]
  have hm : linesP (lb.map (moveT k (A.length + 1))) = (l :: L).map (List.map (moveT k (A.length + 1))) := by
    rw [← hL]; exact linesGo_map (moveT k (A.length + 1)) (fun _ => rfl) lb []
  have hpm : parseP (l.map (moveT k (A.length + 1))) = none := by
    have e1 := parse_era (l.map (moveT k (A.length + 1)))
    rw [move_era, parse_era, hp] at e1
    cases hq : parseP (l.map (moveT k (A.length + 1))) with
    | none => rfl
    | some z => rw [hq] at e1; cases e1
  have hne : l.map (moveT k (A.length + 1)) ≠ [] := by simpa using hn
  rw [hm, List.map_cons, readGo, if_neg hne, hpm]
  simp only
  have hz : ((List.head? (l.map (moveT k (A.length + 1)))).map Tok.at_).getD 0 = ((A.length + 1 : Nat) : Int) := by
    cases l with
    | nil => exact absurd rfl hn
    | cons t l =>
      have : t.at_ = 0 := by simpa using hat
      simp [moveT, this]
  rw [hz]
  simp
/-- Orders are never struck; a label that is there stays. -/
theorem read_grow : ∀ {L : List (List Tok)} {q p : Prg} {y : Int}, readGo L q = (p, y, 0) → q.orders.length ≤ p.orders.length ∧ ∀ s, (q.find s).isSome = true → (p.find s).isSome = true
  | [], q, p, y, h => by rw [readGo] at h; injection h with h _; subst h; exact ⟨Nat.le_refl _, fun _ h => h⟩
  | l :: L, q, p, y, h => by
    rw [readGo] at h
    by_cases hl : l = []
    · rw [if_pos hl] at h; exact read_grow h
    · rw [if_neg hl] at h
      cases hp : parseP l with
      | none => rw [hp] at h; simp only at h; injection h with _ h; injection h with _ h; cases h
      | some x =>
        rw [hp] at h
        simp only at h
        split at h
        · rename_i hne; injection h with _ h; injection h with _ h; exact absurd h hne
        · obtain ⟨h1, h2⟩ := read_grow h
          cases x with
          | mark s a =>
            unfold addP at h1 h2
            simp only at h1 h2
            split at h1
            · rename_i hi; rw [if_pos hi] at h2; exact ⟨h1, h2⟩
            · rename_i hi
              rw [if_neg hi] at h2
              refine ⟨h1, fun t ht => h2 t ?_⟩
              rw [find_snoc q.orders q.labels s t _ (by simpa using hi)]
              split
              · rfl
              · exact ht
          | order o =>
            unfold addP at h1 h2
            simp only at h1 h2
            split at h1
            · rename_i hi; rw [if_pos hi] at h2; exact ⟨h1, h2⟩
            · rename_i hi
              rw [if_neg hi] at h2
              simp only [List.length_append, List.length_singleton] at h1
              exact ⟨by omega, h2⟩
/-- The same lines once more. -/
theorem twice (p : Prg) : ∀ (L L2 : List (List Tok)) (q q2 : Prg) (y : Int), L2.map (List.map Tok.era) = L.map (List.map Tok.era) → readGo L q = (p, y, 0) → q.labels = [] → q2.labels = p.labels →
    q2.orders.map Ord.era = (p.orders ++ q.orders).map Ord.era →
    (readGo L2 q2).2.2 = 5 ∨ ((readGo L2 q2).2.2 = 3 ∧ 128 < p.orders.length) ∨ ((readGo L2 q2).2.2 = 0 ∧ p.labels = [] ∧ (readGo L2 q2).1.orders.map Ord.era = (p.orders ++ p.orders).map Ord.era ∧ (readGo L2 q2).1.labels = [])
  | [], L2, q, q2, y, hL, h, hq, hq2, ho => by
    obtain rfl : L2 = [] := by cases L2 with | nil => rfl | cons _ _ => simp at hL
    rw [readGo] at h; injection h with h _; subst h
    exact .inr (.inr ⟨rfl, hq, ho, hq2.trans hq⟩)
  | l :: L, L2, q, q2, y, hL, h, hq, hq2, ho => by
    obtain ⟨l2, L2, rfl⟩ : ∃ l2 L2', L2 = l2 :: L2' := by cases L2 with | nil => simp at hL | cons a b => exact ⟨a, b, rfl⟩
    simp only [List.map_cons, List.cons.injEq] at hL
    obtain ⟨hl2, hL⟩ := hL
    have hlen : q2.orders.length = p.orders.length + q.orders.length := by
      have := congrArg List.length ho
      simpa using this
    rw [readGo]
    rw [readGo] at h
    by_cases hl : l = []
    · subst hl
      rw [if_pos rfl] at h
      rw [if_pos (by simpa using hl2)]
      exact twice p L L2 q q2 y hL h hq hq2 ho
    · rw [if_neg hl] at h
      rw [if_neg (fun e => hl (by subst e; simpa using hl2.symm))]
      have hpe : (parseP l2).map Lin.era = (parseP l).map Lin.era := by rw [← parse_era, ← parse_era, hl2]
      cases hp : parseP l with
      | none => rw [hp] at h; simp only at h; injection h with _ h; injection h with _ h; cases h
      | some x =>
        rw [hp] at h hpe
        simp only at h
        cases hp2 : parseP l2 with
        | none => rw [hp2] at hpe; cases hpe
        | some x2 =>
          rw [hp2] at hpe
          simp only [Option.map_some, Option.some.injEq] at hpe
          simp only
          cases x with
          | mark s a =>
            cases x2 with
            | order o2 => cases hpe
            | mark s2 a2 =>
              obtain rfl : s2 = s := by injection hpe
              have hs : (p.find s2).isSome = true := by
                split at h
                · rename_i hne; injection h with _ h; injection h with _ h; exact absurd h hne
                · have hg := (read_grow h).2 s2
                  refine hg ?_
                  unfold addP
                  simp only
                  split
                  · rename_i hi; exact hi
                  · rename_i hi
                    rw [find_snoc q.orders q.labels s2 s2 _ (by simpa using hi), if_pos rfl]; rfl
              have hs2 : (q2.find s2).isSome = true := by
                unfold Prg.find at hs ⊢
                rw [hq2]; exact hs
              have : (addP q2 (.mark s2 a2)).2 = 5 := by unfold addP; simp only; rw [if_pos hs2]
              rw [if_pos (by rw [this]; decide), this]
              exact .inl rfl
          | order o =>
            cases x2 with
            | mark s2 a2 => cases hpe
            | order o2 =>
              have hoe : o2.era = o.era := by injection hpe
              by_cases hfull : 256 ≤ q2.orders.length
              · have : (addP q2 (.order o2)).2 = 3 := by unfold addP; simp only; rw [if_pos hfull]
                rw [if_pos (by rw [this]; decide), this]
                refine .inr (.inl ⟨rfl, ?_⟩)
                split at h
                · rename_i hne; injection h with _ h; injection h with _ h; exact absurd h hne
                · rename_i hne
                  have hg := (read_grow h).1
                  have : (addP q (.order o)).1.orders.length = q.orders.length + 1 := by
                    unfold addP at hne ⊢
                    simp only at hne ⊢
                    split at hne
                    · simp at hne
                    · rename_i hi; rw [if_neg hi]; simp
                  omega
              · have h2 : addP q2 (.order o2) = ({ q2 with orders := q2.orders ++ [o2] }, 0) := by unfold addP; simp only; rw [if_neg hfull]
                have h1 : addP q (.order o) = ({ q with orders := q.orders ++ [o] }, 0) := by unfold addP; simp only; rw [if_neg (by omega)]
                rw [h1, if_neg (by simp)] at h
                rw [h2, if_neg (by simp)]
                refine twice p L L2 _ _ y hL h hq hq2 ?_
                show (q2.orders ++ [o2]).map Ord.era = (p.orders ++ (q.orders ++ [o])).map Ord.era
                rw [← List.append_assoc, List.map_append, ho, List.map_append (l₁ := p.orders ++ q.orders)]
                simp [hoe]
theorem code_bare (p : Prg) (hp : p.labels = []) : ∀ (l : List Ord) (k : Nat) (out out' : List Ins) (a : Int), codeGo p l k out = (out', a, 0) → (∀ o ∈ l, o.name = ⟨#[]⟩) ∧ out' = out ++ l.map Ord.i
  | [], k, out, out', a, h => by rw [codeGo] at h; injection h with h _; exact ⟨fun o ho => (nomatch ho), by rw [← h]; simp⟩
  | o :: l, k, out, out', a, h => by
    rw [codeGo] at h
    by_cases hn : o.name = ⟨#[]⟩
    · rw [if_pos hn] at h
      obtain ⟨h1, h2⟩ := code_bare p hp l _ _ _ _ h
      refine ⟨fun x hx => ?_, by rw [h2]; simp⟩
      rcases List.mem_cons.1 hx with rfl | hx
      · exact hn
      · exact h1 x hx
    · rw [if_neg hn] at h
      have : p.find o.name = none := by unfold Prg.find; rw [hp]; rfl
      rw [this] at h
      simp only at h
      injection h with _ h; injection h with _ h; cases h
theorem code_names (p : Prg) : ∀ (l : List Ord) (k : Nat) (out : List Ins), (∀ o ∈ l, o.name = ⟨#[]⟩) → codeGo p l k out = (out ++ l.map Ord.i, 0, 0)
  | [], k, out, _ => by rw [codeGo]; simp
  | o :: l, k, out, h => by
    rw [codeGo, if_pos (h o (by simp)), code_names p l _ _ (fun x hx => h x (by simp [hx]))]
    simp
/-- A text that is read, twice. -/
theorem asm_twice {A : List UInt8} {code : List Ins} {a : Int} (hA : asmP ⟨A.toArray⟩ = (code, a, 0)) (hl : A.length ≤ 300) :
    ∃ two b e, asmP ⟨(A ++ 10 :: A).toArray⟩ = (two, b, e) ∧ (e = 5 ∨ (e = 3 ∧ 128 < code.length) ∨ (e = 0 ∧ two.length = 2 * code.length)) := by
  obtain ⟨la, x, p, y, h1, h2, h3⟩ := asm_parts hA
  have hF := (lexP_forms ⟨A.toArray⟩ (by show A.toArray.size ≤ _; simp; omega)).1
  rw [h1] at hF
  have hP := read_ok PrgOk.init (lines_forms hF)
  rw [h2] at hP
  obtain ⟨cc, k1, k2, _, _⟩ := code_ok p p.orders.length hP.len hP.lab p.orders 0 [] code a h3 hP.ord
  rw [List.nil_append] at k1
  subst k1
  rw [lexP_R _ (by show A.toArray.size ≤ _; simp; omega)] at h1
  rw [show (⟨A.toArray⟩ : ByteArray).data.toList = A from rfl] at h1
  obtain ⟨n, k, hj⟩ := lex_nl A A (by omega) (by rw [h1])
  rw [h1, if_pos rfl] at hj
  simp only at hj
  have hm : linesP (la.map (moveT k (A.length + 1))) = (linesP la).map (List.map (moveT k (A.length + 1))) := linesGo_map (moveT k (A.length + 1)) (fun _ => rfl) la []
  have hme : ((linesP la).map (List.map (moveT k (A.length + 1)))).map (List.map Tok.era) = (linesP la).map (List.map Tok.era) := by
    rw [List.map_map]
    refine List.map_congr_left fun l _ => ?_
    exact move_era k _ l
  have ht := twice p (linesP la) _ ⟨[], []⟩ p y hme h2 rfl rfl (by simp)
  rw [← hm] at ht
  have hasm : asmP ⟨(A ++ 10 :: A).toArray⟩ = if (readGo (linesP (la.map (moveT k (A.length + 1)))) p).2.2 ≠ 0 then ([], (readGo (linesP (la.map (moveT k (A.length + 1)))) p).2.1, (readGo (linesP (la.map (moveT k (A.length + 1)))) p).2.2)
      else codeGo (readGo (linesP (la.map (moveT k (A.length + 1)))) p).1 (readGo (linesP (la.map (moveT k (A.length + 1)))) p).1.orders 0 [] := by
    unfold asmP
    rw [lexP_R _ (by show (A ++ 10 :: A).toArray.size ≤ _; simp; omega)]
    rw [show (⟨(A ++ 10 :: A).toArray⟩ : ByteArray).data.toList = A ++ 10 :: A from rfl, hj]
    simp only [ne_eq, not_true_eq_false, if_false]
    rw [read_nl rfl h2]
  rw [hasm]
  generalize readGo (linesP (la.map (moveT k (A.length + 1)))) p = R at ht ⊢
  obtain ⟨r, b, e⟩ := R
  simp only at ht ⊢
  rcases ht with rfl | ⟨rfl, hc⟩ | ⟨rfl, hp0, hoe, _⟩
  · exact ⟨[], b, 5, by simp, .inl rfl⟩
  · exact ⟨[], b, 3, by simp, .inr (.inl ⟨rfl, by omega⟩)⟩
  · obtain ⟨n1, n2⟩ := code_bare p hp0 _ _ _ _ _ h3
    have hnm : ∀ o ∈ r.orders, o.name = ⟨#[]⟩ := by
      intro o ho
      have : o.era ∈ (p.orders ++ p.orders).map Ord.era := by rw [← hoe]; exact List.mem_map.2 ⟨o, ho, rfl⟩
      obtain ⟨o2, ho2, he⟩ := List.mem_map.1 this
      have e2 : o2.name = o.name := (show o2.era.name = o.era.name by rw [he])
      rw [← e2]
      exact n1 o2 (by rcases List.mem_append.1 ho2 with h | h <;> exact h)
    rw [if_neg (by simp), code_names r _ 0 [] hnm]
    refine ⟨_, 0, 0, rfl, .inr (.inr ⟨rfl, ?_⟩)⟩
    have hlen := congrArg List.length hoe
    simp at hlen
    simp
    omega
end Go.Proofs.YthdlihiehfkceaaDoor

namespace Go.Proofs.YthdlihiehfkceaaDoor
open Go.RowKit
set_option linter.unusedVariables false

/-- Lines that mean nothing. -/
def junkS : Nat → ByteArray
  | 0 => ⟨#[114, 49, 32, 114, 50]⟩
  | 1 => ⟨#[226, 134, 144]⟩
  | 2 => ⟨#[103, 111, 32, 103, 111]⟩
  | 3 => ⟨#[114, 101, 116, 32, 53]⟩
  | 4 => ⟨#[120, 32, 121]⟩
  | 5 => ⟨#[49]⟩
  | 6 => ⟨#[102, 114, 101, 101]⟩
  | _ => ⟨#[114, 48, 58]⟩
def junkB (j : Nat) : List UInt8 := (junkS j).data.toList ++ [10, 114, 101, 116]
def junkOk (B : List UInt8) : Bool := decide ((lexR (runesOf B) 0 r0).2 = (0, 0)) && (match linesP (lexR (runesOf B) 0 r0).1 with
  | l :: _ => !l.isEmpty && (parseP l).isNone && decide (l.head?.map Tok.at_ = some 0)
  | [] => false)
theorem junk_ok : ∀ j : Fin 8, junkOk (junkB j.val) = true ∧ (junkS j.val).size ≤ 5 := by decide +kernel
theorem asm_junkS {S : ByteArray} {code : List Ins} {a : Int} (hA : asmP S = (code, a, 0)) (hl : S.size ≤ 300) {j : Nat} (hj : j < 8) :
    asmP (S ++ ⟨#[10]⟩ ++ junkS j ++ ⟨#[10, 114, 101, 116]⟩) = ([], ((S.size + 1 : Nat) : Int), 23) := by
  have hk := (junk_ok ⟨j, hj⟩).1
  have hs := (junk_ok ⟨j, hj⟩).2
  simp only at hk hs
  unfold junkOk at hk
  rw [Bool.and_eq_true, decide_eq_true_eq] at hk
  obtain ⟨h1, h2⟩ := hk
  obtain ⟨⟨lb, x, y⟩, hR⟩ : ∃ R, lexR (runesOf (junkB j)) 0 r0 = R := ⟨_, rfl⟩
  rw [hR] at h1 h2
  simp only at h1 h2
  injection h1 with e1 e2
  subst e1 e2
  cases hL : linesP lb with
  | nil => rw [hL] at h2; simp at h2
  | cons l L =>
    rw [hL] at h2
    simp only [Bool.and_eq_true, Bool.not_eq_true', decide_eq_true_eq] at h2
    obtain ⟨⟨g1, g2⟩, g3⟩ := h2
    have hA' : asmP ⟨S.data.toList.toArray⟩ = (code, a, 0) := by rw [show (⟨S.data.toList.toArray⟩ : ByteArray) = S by simp]; exact hA
    have hSl : S.data.toList.length = S.size := rfl
    have hJl : (junkB j).length ≤ 9 := by
      unfold junkB
      have : (junkS j).data.toList.length = (junkS j).size := rfl
      rw [List.length_append, this]; simp; omega
    have h := asm_junk (A := S.data.toList) (B := junkB j) hA' (by omega) hR hL (by intro e; subst e; simp at g1) (by simpa using g2) g3
    rw [hSl] at h
    rw [← h]
    congr 1
    refine ByteArray.ext (Array.toList_inj.1 ?_)
    simp [ByteArray.data_append, junkB]
theorem asm_twiceS {S : ByteArray} {code : List Ins} {a : Int} (hA : asmP S = (code, a, 0)) (hl : S.size ≤ 300) :
    ∃ two b e, asmP (S ++ ⟨#[10]⟩ ++ S) = (two, b, e) ∧ (e = 5 ∨ (e = 3 ∧ 128 < code.length) ∨ (e = 0 ∧ two.length = 2 * code.length)) := by
  have hA' : asmP ⟨S.data.toList.toArray⟩ = (code, a, 0) := by rw [show (⟨S.data.toList.toArray⟩ : ByteArray) = S by simp]; exact hA
  obtain ⟨two, b, e, h1, h2⟩ := asm_twice hA' (by show S.size ≤ 300; exact hl)
  refine ⟨two, b, e, ?_, h2⟩
  rw [← h1]
  congr 1
  refine ByteArray.ext (Array.toList_inj.1 ?_)
  simp [ByteArray.data_append]
theorem and7u (x : Int) : ∃ j : Nat, bits .and .u8 x 7 = (j : Int) ∧ j < 8 := by
  have h : (BitVec.ofInt 8 x &&& BitVec.ofInt 8 7).toNat ≤ 7 := by
    rw [BitVec.toNat_and]
    exact Nat.le_trans Nat.and_le_right (by decide)
  refine ⟨(BitVec.ofInt 8 x &&& BitVec.ofInt 8 7).toNat, ?_, by omega⟩
  show IntKind.u8.wrap ((BitVec.ofInt 8 x &&& BitVec.ofInt 8 7).toNat : Int) = _
  rw [IntKind.wrap_u8]
  omega

set_option maxRecDepth 100000 in
set_option maxHeartbeats 8000000 in
theorem first_walk (text : ByteArray) (junk : Int) (W : World) (htab : PowTab W) (hts : text.size ≤ maxLen) (hju : 0 ≤ junk ∧ junk ≤ 255) :
    Calls Tryd.prog 6 #[.string text, .int .u8 junk] W fun e w' => e = .returned (.bool true) ∧ Below W.heap.size W w' := by
  have HT := Lib.hid htab
  clear htab
  go_enter Tryd.func6, Tryd.ntmps6
  go_wp2_with fail
  refine (alive4_any _ HT.out).mono ?_
  rintro e w1 ⟨rfl, hb1⟩
  have HB1 := Lib.hid hb1
  clear hb1
  by_cases h300 : 300 < text.size
  · have g5 : (300 : Int) < (text.size : Int) := by omega
    clear h300
    go_wp2
    go_ret
    exact ⟨rfl, HB1.out⟩
  have g5 : ¬ (300 : Int) < (text.size : Int) := by omega
  have hs300 : text.size ≤ 300 := by omega
  clear h300
  obtain ⟨cd, oa, er, hA⟩ : ∃ cd oa er, asmP text = (cd, oa, er) := ⟨_, _, _, rfl⟩
  have HA := Lib.hid hA
  by_cases her : er = 0
  · subst her
    obtain ⟨jn, hjb, hj8⟩ := and7u junk
    have HJ := Lib.hid (asm_junkS hA hs300 hj8)
    have hjs := (junk_ok ⟨jn, hj8⟩).2
    simp only at hjs
    obtain ⟨two, b2, e2, hA2, hc2⟩ := asm_twiceS hA hs300
    have HA2 := Lib.hid hA2
    have HC2 := Lib.hid hc2
    have hcl := fits_len (asm_fits (by omega) hA).1
    have hjn : (jn : Int) < 8 := by omega
    obtain ⟨CL, hCL⟩ : ∃ CL, cd.length = CL := ⟨_, rfl⟩
    rw [hCL] at hcl
    have HCL := Lib.hid hCL
    obtain ⟨JS, hJS⟩ : ∃ JS, junkS jn = JS := ⟨_, rfl⟩
    have HJS := Lib.hid hJS
    rw [hJS] at HJ hjs
    clear hA hA2 hc2 hCL hJS
    go_upto_region 8 with (
      go_at_call 14
      with_reducible refine (asm_to HA.out w1 hts).mono ?_
      rintro e u1 ⟨A1, c1, rfl, hc1, hr1, _, hb1⟩
      have HB2 := Lib.hid (HB1.out.trans (hb1.mono HB1.out.size))
      clear hb1 hr1 hc1)
    have HN : Hid (∀ j, j < 8 → (u1.alloc (.cells #[.string ⟨#[114, 49, 32, 114, 50]⟩, .string ⟨#[226, 134, 144]⟩, .string ⟨#[103, 111, 32, 103, 111]⟩, .string ⟨#[114, 101, 116, 32, 53]⟩, .string ⟨#[120, 32, 121]⟩, .string ⟨#[49]⟩, .string ⟨#[102, 114, 101, 101]⟩, .string ⟨#[114, 48, 58]⟩] 9)).cell? ⟨u1.heap.size, j, none⟩ = some (.string (junkS j))) := by
      have hb : Bk (u1.alloc (.cells #[.string ⟨#[114, 49, 32, 114, 50]⟩, .string ⟨#[226, 134, 144]⟩, .string ⟨#[103, 111, 32, 103, 111]⟩, .string ⟨#[114, 101, 116, 32, 53]⟩, .string ⟨#[120, 32, 121]⟩, .string ⟨#[49]⟩, .string ⟨#[102, 114, 101, 101]⟩, .string ⟨#[114, 48, 58]⟩] 9)) u1.heap.size 9 #[.string ⟨#[114, 49, 32, 114, 50]⟩, .string ⟨#[226, 134, 144]⟩, .string ⟨#[103, 111, 32, 103, 111]⟩, .string ⟨#[114, 101, 116, 32, 53]⟩, .string ⟨#[120, 32, 121]⟩, .string ⟨#[49]⟩, .string ⟨#[102, 114, 101, 101]⟩, .string ⟨#[114, 48, 58]⟩] := Bk.new _ _ _
      intro j hj
      obtain rfl | rfl | rfl | rfl | rfl | rfl | rfl | rfl : j = 0 ∨ j = 1 ∨ j = 2 ∨ j = 3 ∨ j = 4 ∨ j = 5 ∨ j = 6 ∨ j = 7 := by omega
      · exact hb.cell 0
      · exact hb.cell 1
      · exact hb.cell 2
      · exact hb.cell 3
      · exact hb.cell 4
      · exact hb.cell 5
      · exact hb.cell 6
      · exact hb.cell 7
    have hn := HN.out jn hj8
    rw [HJS.out] at hn
    have HBn : Hid (Below W.heap.size W (u1.alloc (.cells #[.string ⟨#[114, 49, 32, 114, 50]⟩, .string ⟨#[226, 134, 144]⟩, .string ⟨#[103, 111, 32, 103, 111]⟩, .string ⟨#[114, 101, 116, 32, 53]⟩, .string ⟨#[120, 32, 121]⟩, .string ⟨#[49]⟩, .string ⟨#[102, 114, 101, 101]⟩, .string ⟨#[114, 48, 58]⟩] 9))) := HB2.out.alloc HB2.out.size _
    clear HN
    rw [HCL.out]
    go_upto_region 9 with fail
    obtain ⟨V1, hV1⟩ : ∃ V1, u1.alloc (.cells #[.string ⟨#[114, 49, 32, 114, 50]⟩, .string ⟨#[226, 134, 144]⟩, .string ⟨#[103, 111, 32, 103, 111]⟩, .string ⟨#[114, 101, 116, 32, 53]⟩, .string ⟨#[120, 32, 121]⟩, .string ⟨#[49]⟩, .string ⟨#[102, 114, 101, 101]⟩, .string ⟨#[114, 48, 58]⟩] 9) = V1 := ⟨_, rfl⟩
    rw [hV1] at HBn hn ⊢
    clear hV1 hn
    have hsz1 : text.size ≤ maxLen := hts
    have e1 : ((text.size + 1 : Nat) : Int) = (text.size : Int) + 1 := by omega
    have HJ2 := HJ.out
    rw [e1] at HJ2
    have HJ3 := Lib.hid HJ2
    clear HJ2 e1
    have hZ1 : (text ++ ⟨#[10]⟩ ++ JS ++ ⟨#[10, 114, 101, 116]⟩).size ≤ maxLen := by simp only [ByteArray.size_append, maxLen]; show text.size + 1 + JS.size + 4 ≤ _; omega
    have hZ2 : (text ++ ⟨#[10]⟩ ++ text).size ≤ maxLen := by simp only [ByteArray.size_append, maxLen]; show text.size + 1 + text.size ≤ _; omega
    go_upto_region 10 with (first
      | (go_at_call 14
         with_reducible refine (asm_to HJ3.out V1 hZ1).mono ?_
         rintro e u2 ⟨A2, c2, rfl, hc2', hr2, _, hb2⟩
         have HB3 := Lib.hid (HBn.out.trans (hb2.mono HBn.out.size))
         clear hb2 hr2 hc2'))
    have HCL' := HCL
    obtain ⟨TL, hTL⟩ : ∃ TL, two.length = TL := ⟨_, rfl⟩
    have hc2 := HC2.out
    rw [hTL] at hc2
    have HA2' : ∀ w, Calls Tryd.prog 14 #[.string (text ++ ⟨#[10]⟩ ++ text)] w fun e' w' => ∃ A c, e' = .returned (.tuple #[.slice A TL c, .int .i64 b2, .int .i64 e2]) ∧ Below w.heap.size w w' := by
      intro w
      refine (asm_to HA2.out w hZ2).mono ?_
      rintro e' w' ⟨A, c, h1, _, _, _, h2⟩
      rw [hTL] at h1
      exact ⟨A, c, h1, h2⟩
    have HA3 := Lib.hid HA2'
    clear HA2' hTL HC2
    rcases hc2 with rfl | ⟨rfl, hc⟩ | ⟨rfl, hc⟩
    · go_wp2_with (
        go_at_call 14
        with_reducible refine (HA3.out u2).mono ?_
        rintro e u3 ⟨A3, c3, rfl, hb3⟩
        have HB4 := Lib.hid (HB3.out.trans (hb3.mono HB3.out.size))
        clear hb3)
      go_ret
      exact ⟨by simp, HB4.out⟩
    · have hcl2 : (128 : Int) < (CL : Int) := by have := HCL.out; omega
      go_wp2_with (
        go_at_call 14
        with_reducible refine (HA3.out u2).mono ?_
        rintro e u3 ⟨A3, c3, rfl, hb3⟩
        have HB4 := Lib.hid (HB3.out.trans (hb3.mono HB3.out.size))
        clear hb3)
      go_ret
      exact ⟨by simp, HB4.out⟩
    · have HE : Hid ((TL : Int) = 2 * (CL : Int)) := by have := HCL.out; show _ = _; omega
      clear hc
      go_wp2_with (
        go_at_call 14
        with_reducible refine (HA3.out u2).mono ?_
        rintro e u3 ⟨A3, c3, rfl, hb3⟩
        have HB4 := Lib.hid (HB3.out.trans (hb3.mono HB3.out.size))
        clear hb3)
      go_ret
      exact ⟨ret_bool (by simp; exact HE.out), HB4.out⟩
  · obtain rfl : cd = [] := asm_bad hA her
    have hnb : (er != 0) = true := by simpa using her
    have hnb2 : ¬ er = 0 := her
    clear hA her
    go_wp2_with (
      go_at_call 14
      with_reducible refine (asm_to HA.out w1 hts).mono ?_
      rintro e u1 ⟨A1, c1, rfl, hc1, hr1, _, hb1⟩
      have HB2 := Lib.hid (HB1.out.trans (hb1.mono HB1.out.size))
      clear hb1 hr1 hc1)
    go_ret
    exact ⟨by simp, HB2.out⟩
end Go.Proofs.YthdlihiehfkceaaDoor
