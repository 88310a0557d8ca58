/-
  Texts of one proof, joined (wip/gen/pack.py): TxtR, FirP, BlkP, LawA5.
-/
import Derived.Test.YthdlihiehfkceaaDoorPtBAA
import Derived.Test.YthdlihiehfkceaaDoorPtBAB
namespace Go.Proofs.YthdlihiehfkceaaDoor
open Go.RowKit
set_option linter.unusedVariables false

/-- A program's text with labels where told, is read as the program. -/
theorem asm_textGo {code : List Ins} (hf : fitsP code = true) (hm : ∀ i ∈ code, 0 ≤ i.imm ∧ i.imm ≤ 18446744073709551615) (cnt : Int → Nat) (hc : ∀ i ∈ code, goesP i.op = true → 0 < cnt i.imm) :
    (asmP ⟨(textGo cnt code 0).toArray⟩).1 = code ∧ (asmP ⟨(textGo cnt code 0).toArray⟩).2.2 = 0 := by
  obtain ⟨h1, h2, _⟩ := fits_some hf
  have hs := seg_text cnt code 0 (by omega) h2 hm
  have hl := textGo_le cnt code 0 (by omega) hm
  obtain ⟨g1, g2⟩ := textLines_len cnt code 0
  have ht := toks_le 7 _ g2
  have ha := asm_seg hs (by omega) (by omega)
  rw [lines_toks _ (lines_no3 cnt code 0 (by omega) h2 hm), asm_lines hf (fun i hi => (hm i hi).1) cnt hc] at ha
  injection ha with e1 e2
  exact ⟨e1, e2⟩
def noCnt : Int → Nat := fun _ => 0
def lineB (i : Ins) : List UInt8 := printP (lineToks i) ++ [10]
theorem textGo_no : ∀ (l : List Ins) (k : Nat), textGo noCnt l k = l.flatMap lineB
  | [], k => rfl
  | i :: r, k => by rw [textGo, textGo_no r]; rfl
theorem text_one {i : Ins} (hp : plainB i.op i.a i.b i.c i.imm = true) (hg : goesP i.op = false) : textP [i] = ⟨(lineB i).toArray⟩ := by
  have hf : fitsP [i] = true := by
    unfold fitsP fitsGo fitsGo jumpOk Ins.plain
    simp [hp, hg]
  obtain ⟨_, _, cnt, _, h4, h5⟩ := fits_some hf
  rw [h4]
  have h0 : ∀ x, ¬ 0 < cnt x := fun x e => by
    obtain ⟨j, hj, h, _⟩ := (h5 x).1 e
    rw [List.mem_singleton.1 hj, hg] at h; cases h
  have e : textGo cnt [i] 0 = lineB i := by
    rw [textGo, textGo]
    unfold headP
    rw [if_neg (h0 _), if_neg (h0 _)]
    simp [lineB]
  rw [e]
theorem lineB_le {i : Ins} (h : 0 ≤ i.imm ∧ i.imm ≤ 18446744073709551615) : (lineB i).length ≤ 176 := by
  have := print_line_le i h
  unfold lineB
  rw [List.length_append]
  simp; omega
theorem linesB_le : ∀ (l : List Ins), (∀ i ∈ l, 0 ≤ i.imm ∧ i.imm ≤ 18446744073709551615) → (l.flatMap lineB).length ≤ 176 * l.length
  | [], _ => Nat.le_refl _
  | i :: r, h => by
    have := lineB_le (h i (by simp))
    have ih := linesB_le r (fun j hj => h j (by simp [hj]))
    rw [List.flatMap_cons, List.length_append, List.length_cons]; omega
theorem fits_stay {l : List Ins} (hl : l.length ≤ 256) (hp : ∀ i ∈ l, plainB i.op i.a i.b i.c i.imm = true) (hg : ∀ i ∈ l, goesP i.op = false) : fitsP l = true := by
  have hgo : ∀ (n : Nat) (l : List Ins) (k : Nat), (∀ i ∈ l, goesP i.op = false) → fitsGo n l k = true := by
    intro n l
    induction l with
    | nil => intro k _; rfl
    | cons i r ih =>
      intro k h
      rw [fitsGo, ih (k + 1) (fun j hj => h j (by simp [hj]))]
      unfold jumpOk
      rw [h i (by simp)]; rfl
  unfold fitsP
  simp only [Bool.and_eq_true, decide_eq_true_eq]
  exact ⟨⟨hl, List.all_eq_true.2 hp⟩, hgo _ _ _ hg⟩
/-- Lines of instructions that go nowhere are read as they stand. -/
theorem asm_stay {l : List Ins} (hl : l.length ≤ 256) (hp : ∀ i ∈ l, plainB i.op i.a i.b i.c i.imm = true) (hm : ∀ i ∈ l, 0 ≤ i.imm ∧ i.imm ≤ 18446744073709551615) (hg : ∀ i ∈ l, goesP i.op = false) :
    ∃ a, asmP ⟨(l.flatMap lineB).toArray⟩ = (l, a, 0) := by
  have h := asm_textGo (fits_stay hl hp hg) hm noCnt (fun i hi e => by rw [hg i hi] at e; cases e)
  rw [textGo_no] at h
  generalize asmP ⟨(l.flatMap lineB).toArray⟩ = R at h
  obtain ⟨x, y, z⟩ := R
  obtain ⟨h1, h2⟩ := h
  exact ⟨y, by rw [show x = l from h1, show z = 0 from h2]⟩
/-- A program, begun at one of its places, round to it. -/
def rotP (code : List Ins) (t : Nat) : List Ins := (List.range code.length).map fun k => (code[(k + t) % code.length]?).getD ⟨0, 0, 0, 0, 0⟩
theorem rot_len (code : List Ins) (t : Nat) : (rotP code t).length = code.length := by simp [rotP]
theorem rot_at {code : List Ins} {t k : Nat} {i : Ins} (hk : k < code.length) (h : code[(k + t) % code.length]? = some i) : (rotP code t)[k]? = some i := by
  unfold rotP
  rw [List.getElem?_map, List.getElem?_range hk]
  simp [h]
theorem rot_mem {code : List Ins} {t : Nat} {i : Ins} (h : i ∈ rotP code t) : i ∈ code := by
  unfold rotP at h
  obtain ⟨k, hk, rfl⟩ := List.mem_map.1 h
  have hk' := List.mem_range.1 hk
  have hlt : (k + t) % code.length < code.length := Nat.mod_lt _ (by omega)
  rw [List.getElem?_eq_getElem hlt]
  exact List.getElem_mem hlt
end Go.Proofs.YthdlihiehfkceaaDoor

namespace Go.Proofs.YthdlihiehfkceaaDoor
open Go.RowKit
set_option linter.unusedVariables false

/-- One text, a line's end, another one: their tokens. -/
theorem lex_nl (A B : List UInt8) (hl : A.length + 1 + B.length < 16384) (hA : (lexR (runesOf A) 0 r0).2.2 = 0) : ∃ n k,
    lexR (runesOf (A ++ 10 :: B)) 0 r0 = if (lexR (runesOf B) 0 r0).2.2 = 0 then ((lexR (runesOf A) 0 r0).1 ++ (⟨3, ⟨#[]⟩, 0, (A.length : Nat), n⟩ :: (lexR (runesOf B) 0 r0).1.map (moveT k (A.length + 1))), 0, 0)
      else ([], (lexR (runesOf B) 0 r0).2.1 + ((A.length + 1 : Nat) : Int), (lexR (runesOf B) 0 r0).2.2) := by
  have hpl : plainHead (10 :: B) := .inr ⟨10, B, rfl, by decide⟩
  have happ := lexR_app (runesOf (10 :: B)) (runesOf A) 0 r0
  rw [← runesOf_append (10 :: B) hpl _ A (Nat.le_refl _), bytesOf_runes _ A (Nat.le_refl _), Nat.zero_add] at happ
  have hend := lexR_end (runesOf A) 0 r0
  have hforms := lexR_forms (runesOf A) 0 0 r0 ⟨fun t ht => by simp [r0] at ht, fun a w e => (by cases e), by simp [r0]⟩ (runesOf_proper _ _ (Nat.le_refl _))
  have hrl := runesOf_length _ A (Nat.le_refl _)
  rw [happ]
  by_cases h1 : (stR (runesOf A) 0 r0).2.1 ≠ 0
  · rw [if_pos h1] at hend
    rw [hend] at hA
    exact absurd hA h1
  · rw [if_neg h1] at hend
    rw [if_neg h1, hend]
    rw [hend] at hA hforms
    generalize (stR (runesOf A) 0 r0).2.2 = qa at hend hA hforms ⊢
    have h2 : (shutR qa).2.1 = 0 := by
      rcases Decidable.em ((shutR qa).2.1 = 0) with h | h
      · exact h
      · have he : endR qa = ([], (shutR qa).1, (shutR qa).2.1) := by rw [endR, if_pos h]
        rw [he] at hA; exact absurd hA h
    have he : endR qa = ((shutR qa).2.2.list, 0, 0) := by rw [endR, if_neg (by simp [h2])]
    rw [he] at hforms ⊢
    have hll : (shutR qa).2.2.list.length ≤ A.length := by have := hforms.2; simp only at this; omega
    have hclose := lexR_close (rest := 10 :: B) (.inr ⟨10, B, rfl, .inl rfl⟩) (pos := A.length) h2
    rw [hclose, runesOf_ascii 10 _ (by decide), lexR]
    have hr := (shutR_kept qa).1
    generalize (shutR qa).2.2 = q at hll hr ⊢
    rw [rune_nl hr (by omega)]
    simp only [ne_eq, not_true_eq_false, if_false]
    have hm := lexR_move (q.list ++ [⟨3, ⟨#[]⟩, 0, (A.length : Nat), q.line⟩]) (q.line + 1) (A.length + [(10 : UInt8)].length) (runesOf B) 0 0 r0 ⟨fun t ht => by simp [r0] at ht, fun a w e => (by cases e), by simp [r0]⟩ (runesOf_proper _ _ (Nat.le_refl _)) (by have := runesOf_length _ B (Nat.le_refl _); simp; omega)
    have e0 : moveR (q.list ++ [⟨3, ⟨#[]⟩, 0, (A.length : Nat), q.line⟩]) (q.line + 1) (A.length + [(10 : UInt8)].length) r0 = { list := q.list ++ [⟨3, ⟨#[]⟩, 0, (A.length : Nat), q.line⟩], line := q.line + 1, run := none, remark := false } := by simp [moveR, r0]
    rw [e0, Nat.zero_add] at hm
    refine ⟨q.line, q.line + 1, ?_⟩
    rw [hm]
    by_cases hB : (lexR (runesOf B) 0 r0).2.2 = 0
    · rw [if_pos hB, if_pos hB]
      simp
    · rw [if_neg hB, if_neg hB]
      rfl
theorem linesGo_map (f : Tok → Tok) (hf : ∀ t, (f t).kind = t.kind) : ∀ (l cur : List Tok), linesGo (l.map f) (cur.map f) = (linesGo l cur).map (List.map f)
  | [], cur => by
    rw [List.map_nil, linesGo, linesGo]
    cases cur <;> simp
  | t :: l, cur => by
    rw [List.map_cons, linesGo, linesGo, hf]
    split
    · rw [List.map_cons, ← linesGo_map f hf l []]; rfl
    · have := linesGo_map f hf l (cur ++ [t])
      rw [List.map_append] at this
      exact this
theorem linesGo_full (e : Tok) (he : e.kind = 3) (r : List Tok) : ∀ (l cur : List Tok), fullL (linesGo (l ++ e :: r) cur) = fullL (linesGo l cur) ++ fullL (linesGo r [])
  | [], cur => by
    rw [List.nil_append, linesGo.eq_2, if_pos he, linesGo.eq_1]
    cases cur with
    | nil => rfl
    | cons x cur => rfl
  | t :: l, cur => by
    rw [List.cons_append, linesGo, linesGo]
    split
    · cases cur with
      | nil => exact linesGo_full e he r l []
      | cons x cur =>
        have := linesGo_full e he r l []
        show (x :: cur) :: fullL _ = (x :: cur) :: fullL _ ++ _
        rw [this]; rfl
    · exact linesGo_full e he r l _
theorem read_nl {la lb : List Tok} {e : Tok} (he : e.kind = 3) {p p' : Prg} {y : Int} (h : readGo (linesP la) p = (p', y, 0)) : readGo (linesP (la ++ e :: lb)) p = readGo (linesP lb) p' := by
  rw [readGo_full (linesP (la ++ e :: lb))]
  unfold linesP at h ⊢
  rw [linesGo_full e he]
  rw [readGo_full] at h
  rw [readGo_app _ _ _ (by rw [h]), h, ← readGo_full]
theorem era_eq {t u : Tok} (h : t.kind = u.kind ∧ t.text = u.text ∧ t.num = u.num) : t.era = u.era := by
  unfold Tok.era
  rw [h.1, h.2.1, h.2.2]
theorem move_era (k d : Nat) (l : List Tok) : (l.map (moveT k d)).map Tok.era = l.map Tok.era := by
  rw [List.map_map]; rfl
/-- A line that means nothing, behind a text that is read. -/
theorem asm_junk {A B : List UInt8} {code : List Ins} {a : Int} (hA : asmP ⟨A.toArray⟩ = (code, a, 0)) (hl : A.length + 1 + B.length < 16384)
    {lb : List Tok} (hB : lexR (runesOf B) 0 r0 = (lb, 0, 0)) {l : List Tok} {L : List (List Tok)} (hL : linesP lb = l :: L) (hn : l ≠ []) (hp : parseP l = none) (hat : l.head?.map Tok.at_ = some 0) :
    asmP ⟨(A ++ 10 :: B).toArray⟩ = ([], ((A.length + 1 : Nat) : Int), 23) := by
  obtain ⟨la, x, p, y, h1, h2, h3⟩ := asm_parts hA
  rw [lexP_R _ (by show A.toArray.size ≤ _; simp; omega)] at h1
  obtain ⟨n, k, hj⟩ := lex_nl A B hl (by rw [show (⟨A.toArray⟩ : ByteArray).data.toList = A from rfl] at h1; rw [h1])
  rw [show (⟨A.toArray⟩ : ByteArray).data.toList = A from rfl] at h1
  rw [h1, hB, if_pos rfl] at hj
  unfold asmP
  rw [lexP_R _ (by show (A ++ 10 :: B).toArray.size ≤ _; simp; omega)]
  rw [show (⟨(A ++ 10 :: B).toArray⟩ : ByteArray).data.toList = A ++ 10 :: B from rfl, hj]
  simp only [ne_eq, not_true_eq_false, if_false]
  rw [read_nl rfl h2]
  have hm : linesP (lb.map (moveT k (A.length + 1))) = (l :: L).map (List.map (moveT k (A.length + 1))) := by
    rw [← hL]; exact linesGo_map (moveT k (A.length + 1)) (fun _ => rfl) lb []
  have hpm : parseP (l.map (moveT k (A.length + 1))) = none := by
    have e1 := parse_era (l.map (moveT k (A.length + 1)))
    rw [move_era, parse_era, hp] at e1
    cases hq : parseP (l.map (moveT k (A.length + 1))) with
    | none => rfl
    | some z => rw [hq] at e1; cases e1
  have hne : l.map (moveT k (A.length + 1)) ≠ [] := by simpa using hn
  rw [hm, List.map_cons, readGo, if_neg hne, hpm]
  simp only
  have hz : ((List.head? (l.map (moveT k (A.length + 1)))).map Tok.at_).getD 0 = ((A.length + 1 : Nat) : Int) := by
    cases l with
    | nil => exact absurd rfl hn
    | cons t l =>
      have : t.at_ = 0 := by simpa using hat
      simp [moveT, this]
  rw [hz]
  simp
/-- Orders are never struck; a label that is there stays. -/
theorem read_grow : ∀ {L : List (List Tok)} {q p : Prg} {y : Int}, readGo L q = (p, y, 0) → q.orders.length ≤ p.orders.length ∧ ∀ s, (q.find s).isSome = true → (p.find s).isSome = true
  | [], q, p, y, h => by rw [readGo] at h; injection h with h _; subst h; exact ⟨Nat.le_refl _, fun _ h => h⟩
  | l :: L, q, p, y, h => by
    rw [readGo] at h
    by_cases hl : l = []
    · rw [if_pos hl] at h; exact read_grow h
    · rw [if_neg hl] at h
      cases hp : parseP l with
      | none => rw [hp] at h; simp only at h; injection h with _ h; injection h with _ h; cases h
      | some x =>
        rw [hp] at h
        simp only at h
        split at h
        · rename_i hne; injection h with _ h; injection h with _ h; exact absurd h hne
        · obtain ⟨h1, h2⟩ := read_grow h
          cases x with
          | mark s a =>
            unfold addP at h1 h2
            simp only at h1 h2
            split at h1
            · rename_i hi; rw [if_pos hi] at h2; exact ⟨h1, h2⟩
            · rename_i hi
              rw [if_neg hi] at h2
              refine ⟨h1, fun t ht => h2 t ?_⟩
              rw [find_snoc q.orders q.labels s t _ (by simpa using hi)]
              split
              · rfl
              · exact ht
          | order o =>
            unfold addP at h1 h2
            simp only at h1 h2
            split at h1
            · rename_i hi; rw [if_pos hi] at h2; exact ⟨h1, h2⟩
            · rename_i hi
              rw [if_neg hi] at h2
              simp only [List.length_append, List.length_singleton] at h1
              exact ⟨by omega, h2⟩
/-- The same lines once more. -/
theorem twice (p : Prg) : ∀ (L L2 : List (List Tok)) (q q2 : Prg) (y : Int), L2.map (List.map Tok.era) = L.map (List.map Tok.era) → readGo L q = (p, y, 0) → q.labels = [] → q2.labels = p.labels →
    q2.orders.map Ord.era = (p.orders ++ q.orders).map Ord.era →
    (readGo L2 q2).2.2 = 5 ∨ ((readGo L2 q2).2.2 = 3 ∧ 128 < p.orders.length) ∨ ((readGo L2 q2).2.2 = 0 ∧ p.labels = [] ∧ (readGo L2 q2).1.orders.map Ord.era = (p.orders ++ p.orders).map Ord.era ∧ (readGo L2 q2).1.labels = [])
  | [], L2, q, q2, y, hL, h, hq, hq2, ho => by
    obtain rfl : L2 = [] := by cases L2 with | nil => rfl | cons _ _ => simp at hL
    rw [readGo] at h; injection h with h _; subst h
    exact .inr (.inr ⟨rfl, hq, ho, hq2.trans hq⟩)
  | l :: L, L2, q, q2, y, hL, h, hq, hq2, ho => by
    obtain ⟨l2, L2, rfl⟩ : ∃ l2 L2', L2 = l2 :: L2' := by cases L2 with | nil => simp at hL | cons a b => exact ⟨a, b, rfl⟩
    simp only [List.map_cons, List.cons.injEq] at hL
    obtain ⟨hl2, hL⟩ := hL
    have hlen : q2.orders.length = p.orders.length + q.orders.length := by
      have := congrArg List.length ho
      simpa using this
    rw [readGo]
    rw [readGo] at h
    by_cases hl : l = []
    · subst hl
      rw [if_pos rfl] at h
      rw [if_pos (by simpa using hl2)]
      exact twice p L L2 q q2 y hL h hq hq2 ho
    · rw [if_neg hl] at h
      rw [if_neg (fun e => hl (by subst e; simpa using hl2.symm))]
      have hpe : (parseP l2).map Lin.era = (parseP l).map Lin.era := by rw [← parse_era, ← parse_era, hl2]
      cases hp : parseP l with
      | none => rw [hp] at h; simp only at h; injection h with _ h; injection h with _ h; cases h
      | some x =>
        rw [hp] at h hpe
        simp only at h
        cases hp2 : parseP l2 with
        | none => rw [hp2] at hpe; cases hpe
        | some x2 =>
          rw [hp2] at hpe
          simp only [Option.map_some, Option.some.injEq] at hpe
          simp only
          cases x with
          | mark s a =>
            cases x2 with
            | order o2 => cases hpe
            | mark s2 a2 =>
              obtain rfl : s2 = s := by injection hpe
              have hs : (p.find s2).isSome = true := by
                split at h
                · rename_i hne; injection h with _ h; injection h with _ h; exact absurd h hne
                · have hg := (read_grow h).2 s2
                  refine hg ?_
                  unfold addP
                  simp only
                  split
                  · rename_i hi; exact hi
                  · rename_i hi
                    rw [find_snoc q.orders q.labels s2 s2 _ (by simpa using hi), if_pos rfl]; rfl
              have hs2 : (q2.find s2).isSome = true := by
                unfold Prg.find at hs ⊢
                rw [hq2]; exact hs
              have : (addP q2 (.mark s2 a2)).2 = 5 := by unfold addP; simp only; rw [if_pos hs2]
              rw [if_pos (by rw [this]; decide), this]
              exact .inl rfl
          | order o =>
            cases x2 with
            | mark s2 a2 => cases hpe
            | order o2 =>
              have hoe : o2.era = o.era := by injection hpe
              by_cases hfull : 256 ≤ q2.orders.length
              · have : (addP q2 (.order o2)).2 = 3 := by unfold addP; simp only; rw [if_pos hfull]
                rw [if_pos (by rw [this]; decide), this]
                refine .inr (.inl ⟨rfl, ?_⟩)
                split at h
                · rename_i hne; injection h with _ h; injection h with _ h; exact absurd h hne
                · rename_i hne
                  have hg := (read_grow h).1
                  have : (addP q (.order o)).1.orders.length = q.orders.length + 1 := by
                    unfold addP at hne ⊢
                    simp only at hne ⊢
                    split at hne
                    · simp at hne
                    · rename_i hi; rw [if_neg hi]; simp
                  omega
              · have h2 : addP q2 (.order o2) = ({ q2 with orders := q2.orders ++ [o2] }, 0) := by unfold addP; simp only; rw [if_neg hfull]
                have h1 : addP q (.order o) = ({ q with orders := q.orders ++ [o] }, 0) := by unfold addP; simp only; rw [if_neg (by omega)]
                rw [h1, if_neg (by simp)] at h
                rw [h2, if_neg (by simp)]
                refine twice p L L2 _ _ y hL h hq hq2 ?_
                show (q2.orders ++ [o2]).map Ord.era = (p.orders ++ (q.orders ++ [o])).map Ord.era
                rw [← List.append_assoc, List.map_append, ho, List.map_append (l₁ := p.orders ++ q.orders)]
                simp [hoe]
theorem code_bare (p : Prg) (hp : p.labels = []) : ∀ (l : List Ord) (k : Nat) (out out' : List Ins) (a : Int), codeGo p l k out = (out', a, 0) → (∀ o ∈ l, o.name = ⟨#[]⟩) ∧ out' = out ++ l.map Ord.i
  | [], k, out, out', a, h => by rw [codeGo] at h; injection h with h _; exact ⟨fun o ho => (nomatch ho), by rw [← h]; simp⟩
  | o :: l, k, out, out', a, h => by
    rw [codeGo] at h
    by_cases hn : o.name = ⟨#[]⟩
    · rw [if_pos hn] at h
      obtain ⟨h1, h2⟩ := code_bare p hp l _ _ _ _ h
      refine ⟨fun x hx => ?_, by rw [h2]; simp⟩
      rcases List.mem_cons.1 hx with rfl | hx
      · exact hn
      · exact h1 x hx
    · rw [if_neg hn] at h
      have : p.find o.name = none := by unfold Prg.find; rw [hp]; rfl
      rw [this] at h
      simp only at h
      injection h with _ h; injection h with _ h; cases h
theorem code_names (p : Prg) : ∀ (l : List Ord) (k : Nat) (out : List Ins), (∀ o ∈ l, o.name = ⟨#[]⟩) → codeGo p l k out = (out ++ l.map Ord.i, 0, 0)
  | [], k, out, _ => by rw [codeGo]; simp
  | o :: l, k, out, h => by
    rw [codeGo, if_pos (h o (by simp)), code_names p l _ _ (fun x hx => h x (by simp [hx]))]
    simp
/-- A text that is read, twice. -/
theorem asm_twice {A : List UInt8} {code : List Ins} {a : Int} (hA : asmP ⟨A.toArray⟩ = (code, a, 0)) (hl : A.length ≤ 300) :
    ∃ two b e, asmP ⟨(A ++ 10 :: A).toArray⟩ = (two, b, e) ∧ (e = 5 ∨ (e = 3 ∧ 128 < code.length) ∨ (e = 0 ∧ two.length = 2 * code.length)) := by
  obtain ⟨la, x, p, y, h1, h2, h3⟩ := asm_parts hA
  have hF := (lexP_forms ⟨A.toArray⟩ (by show A.toArray.size ≤ _; simp; omega)).1
  rw [h1] at hF
  have hP := read_ok PrgOk.init (lines_forms hF)
  rw [h2] at hP
  obtain ⟨cc, k1, k2, _, _⟩ := code_ok p p.orders.length hP.len hP.lab p.orders 0 [] code a h3 hP.ord
  rw [List.nil_append] at k1
  subst k1
  rw [lexP_R _ (by show A.toArray.size ≤ _; simp; omega)] at h1
  rw [show (⟨A.toArray⟩ : ByteArray).data.toList = A from rfl] at h1
  obtain ⟨n, k, hj⟩ := lex_nl A A (by omega) (by rw [h1])
  rw [h1, if_pos rfl] at hj
  simp only at hj
  have hm : linesP (la.map (moveT k (A.length + 1))) = (linesP la).map (List.map (moveT k (A.length + 1))) := linesGo_map (moveT k (A.length + 1)) (fun _ => rfl) la []
  have hme : ((linesP la).map (List.map (moveT k (A.length + 1)))).map (List.map Tok.era) = (linesP la).map (List.map Tok.era) := by
    rw [List.map_map]
    refine List.map_congr_left fun l _ => ?_
    exact move_era k _ l
  have ht := twice p (linesP la) _ ⟨[], []⟩ p y hme h2 rfl rfl (by simp)
  rw [← hm] at ht
  have hasm : asmP ⟨(A ++ 10 :: A).toArray⟩ = if (readGo (linesP (la.map (moveT k (A.length + 1)))) p).2.2 ≠ 0 then ([], (readGo (linesP (la.map (moveT k (A.length + 1)))) p).2.1, (readGo (linesP (la.map (moveT k (A.length + 1)))) p).2.2)
      else codeGo (readGo (linesP (la.map (moveT k (A.length + 1)))) p).1 (readGo (linesP (la.map (moveT k (A.length + 1)))) p).1.orders 0 [] := by
    unfold asmP
    rw [lexP_R _ (by show (A ++ 10 :: A).toArray.size ≤ _; simp; omega)]
    rw [show (⟨(A ++ 10 :: A).toArray⟩ : ByteArray).data.toList = A ++ 10 :: A from rfl, hj]
    simp only [ne_eq, not_true_eq_false, if_false]
    rw [read_nl rfl h2]
  rw [hasm]
  generalize readGo (linesP (la.map (moveT k (A.length + 1)))) p = R at ht ⊢
  obtain ⟨r, b, e⟩ := R
  simp only at ht ⊢
  rcases ht with rfl | ⟨rfl, hc⟩ | ⟨rfl, hp0, hoe, _⟩
  · exact ⟨[], b, 5, by simp, .inl rfl⟩
  · exact ⟨[], b, 3, by simp, .inr (.inl ⟨rfl, by omega⟩)⟩
  · obtain ⟨n1, n2⟩ := code_bare p hp0 _ _ _ _ _ h3
    have hnm : ∀ o ∈ r.orders, o.name = ⟨#[]⟩ := by
      intro o ho
      have : o.era ∈ (p.orders ++ p.orders).map Ord.era := by rw [← hoe]; exact List.mem_map.2 ⟨o, ho, rfl⟩
      obtain ⟨o2, ho2, he⟩ := List.mem_map.1 this
      have e2 : o2.name = o.name := (show o2.era.name = o.era.name by rw [he])
      rw [← e2]
      exact n1 o2 (by rcases List.mem_append.1 ho2 with h | h <;> exact h)
    rw [if_neg (by simp), code_names r _ 0 [] hnm]
    refine ⟨_, 0, 0, rfl, .inr (.inr ⟨rfl, ?_⟩)⟩
    have hlen := congrArg List.length hoe
    simp at hlen
    simp
    omega
end Go.Proofs.YthdlihiehfkceaaDoor

namespace Go.Proofs.YthdlihiehfkceaaDoor
open Go.RowKit
open Go.Lib (decodeL decodeN)
set_option linter.unusedVariables false

/-- A rune that is written as it is read, and is no line's end. -/
def Kept (x : Nat × List UInt8) : Prop := x.1 ≠ 10 ∧ (Utf8.encode (x.1 : Int)).data.toList = x.2
/-- A piece whose runes are its own, whatever stands behind. -/
def Cl (x : List UInt8) : Prop := ∀ rest, ∃ rs, runesOf (x ++ rest) = rs ++ runesOf rest ∧ rs.flatMap (·.2) = x ∧ ∀ y ∈ rs, Kept y
theorem Cl.nil : Cl [] := fun rest => ⟨[], rfl, rfl, fun y hy => nomatch hy⟩
theorem Cl.app {x y : List UInt8} (hx : Cl x) (hy : Cl y) : Cl (x ++ y) := fun rest => by
  obtain ⟨r1, a1, a2, a3⟩ := hx (y ++ rest)
  obtain ⟨r2, b1, b2, b3⟩ := hy rest
  refine ⟨r1 ++ r2, by rw [List.append_assoc, a1, b1, List.append_assoc], by rw [List.flatMap_append, a2, b2], fun z hz => ?_⟩
  rcases List.mem_append.1 hz with h | h
  · exact a3 z h
  · exact b3 z h
theorem ascii_enc : ∀ c : Fin 128, (Utf8.encode (c.val : Nat)).data.toList = [UInt8.ofNat c.val] := by decide +kernel
theorem Cl.byte {c : UInt8} (h : c.toNat < 128) (hn : c ≠ 10) : Cl [c] := fun rest => by
  refine ⟨[(c.toNat, [c])], by rw [List.singleton_append, runesOf_ascii c rest h]; rfl, rfl, fun y hy => ?_⟩
  obtain rfl := List.mem_singleton.1 hy
  refine ⟨fun e => hn (UInt8.toNat_inj.1 (by rw [show (10 : UInt8).toNat = 10 from rfl]; exact e)), ?_⟩
  have := ascii_enc ⟨c.toNat, h⟩
  simp only at this ⊢
  rw [this]; simp
theorem Cl.bytes : ∀ {w : List UInt8}, (∀ y ∈ w, y.toNat < 128 ∧ y ≠ 10) → Cl w
  | [], _ => Cl.nil
  | c :: w, h => (Cl.byte (h c (by simp)).1 (h c (by simp)).2).app (Cl.bytes fun y hy => h y (by simp [hy]))
theorem Cl.of {c : Nat} {E : List UInt8} (h : ∀ rest, runesOf (E ++ rest) = (c, E) :: runesOf rest) (hk : Kept (c, E)) : Cl E := fun rest => by
  refine ⟨[(c, E)], by rw [h, List.singleton_append], by simp, fun y hy => ?_⟩
  rw [List.mem_singleton.1 hy]
  exact hk
theorem kept_of {c : Nat} {E : List UInt8} (h : c ≠ 10) (he : (Utf8.encode (c : Int)).data.toList = E) : Kept (c, E) := by
  unfold Kept
  simp only
  exact ⟨h, he⟩
theorem Cl.sign {c : Nat} (hc : isSign c = true) : Cl (Utf8.encode (c : Int)).data.toList := Cl.of (runesOf_sign hc) (kept_of (sign_plain hc r0 rfl).2.1 (by with_reducible rfl))
theorem more_cl {y : UInt8} (h : moreByte y = true) : y.toNat < 128 ∧ y ≠ 10 := by
  refine ⟨moreByte_small h, fun e => ?_⟩
  subst e
  exact absurd h (by decide)
theorem Cl.run {w : List UInt8} (h : RunOk w) : Cl w := by
  obtain ⟨x, r, rfl, hx, hr⟩ := h
  refine Cl.bytes fun y hy => ?_
  rcases List.mem_cons.1 hy with rfl | hy
  · exact more_cl (by unfold moreByte; rw [hx]; rfl)
  · exact more_cl (hr y hy)
theorem Cl.tok {t : Tok} (h : Form t) (h3 : t.kind ≠ 3) : Cl (tokText t) := by
  rcases h with ⟨a, b, _⟩ | ⟨a, b, u, hu, hn⟩ | ⟨a, b, c, hc, ht⟩ | h
  · rw [tokText, if_neg (by omega)]; exact Cl.run b
  · rw [tokText, if_pos a]; exact Cl.run (dec_run _)
  · rw [tokText, if_neg (by omega), ht]; exact Cl.sign hc
  · exact absurd h.1 h3
theorem Cl.line : ∀ (l : List Tok) (fresh : Bool), (∀ t ∈ l, Form t ∧ t.kind ≠ 3) → Cl (printGo l fresh)
  | [], _, _ => Cl.nil
  | t :: r, fresh, h => by
    obtain ⟨hf, h3⟩ := h t (by simp)
    have hk : ¬ (t.kind < 0 ∨ 3 < t.kind) := by
      rcases hf with h | h | h | h <;> have := h.1 <;> omega
    rw [printGo, if_neg h3, if_neg hk]
    refine Cl.app (Cl.app ?_ (Cl.tok hf h3)) (Cl.line r false (fun x hx => h x (by simp [hx])))
    cases fresh
    · exact Cl.byte (c := 32) (by decide) (by decide)
    · exact Cl.nil
/-- A text's runes, copied, with something ahead of and behind each line's end. -/
def blankR (f g : Nat → List UInt8) : List (Nat × List UInt8) → Nat → List UInt8
  | [], _ => []
  | (c, b) :: r, k => if c = 10 then f k ++ [10] ++ g (k + 1) ++ blankR f g r (k + 1) else b ++ blankR f g r k
theorem blankR_kept (f g : Nat → List UInt8) (r : List (Nat × List UInt8)) (k : Nat) : ∀ (rs : List (Nat × List UInt8)), (∀ y ∈ rs, Kept y) → blankR f g (rs ++ r) k = rs.flatMap (·.2) ++ blankR f g r k
  | [], _ => rfl
  | (c, b) :: rs, h => by
    rw [List.cons_append, blankR, if_neg (h (c, b) (by simp)).1, blankR_kept f g r k rs (fun y hy => h y (by simp [hy]))]
    simp
/-- A line, and its tokens. -/
structure Piece (x : List UInt8 × List Tok) : Prop where
  seg : SegS x.1 x.2
  cl : Cl x.1
  ne : x.2 ≠ []
  no : ∀ t ∈ x.2, t.kind ≠ 3
  len : x.2.length ≤ 7
def plainB_ (P : List (List UInt8 × List Tok)) : List UInt8 := P.flatMap fun x => x.1 ++ [10]
def blankB (f g : Nat → List UInt8) : List (List UInt8 × List Tok) → Nat → List UInt8
  | [], _ => []
  | x :: P, k => x.1 ++ (f k ++ [10] ++ g (k + 1)) ++ blankB f g P (k + 1)
theorem blankR_B (f g : Nat → List UInt8) : ∀ (P : List (List UInt8 × List Tok)) (k : Nat), (∀ x ∈ P, Piece x) → blankR f g (runesOf (plainB_ P)) k = blankB f g P k
  | [], k, _ => rfl
  | x :: P, k, h => by
    have ih := blankR_B f g P (k + 1) (fun y hy => h y (by simp [hy]))
    have e : plainB_ (x :: P) = x.1 ++ (10 :: plainB_ P) := by simp [plainB_]
    obtain ⟨rs, a1, a2, a3⟩ := (h x (by simp)).cl (10 :: plainB_ P)
    rw [e, a1, blankR_kept f g _ k rs a3, a2, runesOf_ascii 10 _ (by decide)]
    rw [blankR, if_pos (show (10 : UInt8).toNat = 10 from rfl), ih, blankB]
    simp
/-- What stands between lines. -/
structure Gap (y : List UInt8) (n : Nat) : Prop where
  head : ∃ c r, y = c :: r ∧ stopB c = true
  seg : SegA y (List.replicate (n + 1) endT)
def toksB (n : Nat → Nat) : List (List UInt8 × List Tok) → Nat → List Tok
  | [], _ => []
  | x :: P, k => x.2 ++ List.replicate (n k + 1) endT ++ toksB n P (k + 1)
theorem seg_blanks {f g : Nat → List UInt8} {n : Nat → Nat} (hg : ∀ k, Gap (f k ++ [10] ++ g (k + 1)) (n k)) : ∀ (P : List (List UInt8 × List Tok)) (k : Nat), (∀ x ∈ P, Piece x) → SegA (blankB f g P k) (toksB n P k)
  | [], k, _ => SegA.nil
  | x :: P, k, h => ((h x (by simp)).seg.appA (hg k).head (hg k).seg).app (seg_blanks hg P (k + 1) (fun y hy => h y (by simp [hy])))
theorem full_ends (r : List Tok) : ∀ m : Nat, fullL (linesGo (List.replicate m endT ++ r) []) = fullL (linesGo r [])
  | 0 => rfl
  | m + 1 => by
    rw [List.replicate_succ, List.cons_append, linesGo, if_pos (show endT.kind = 3 from rfl)]
    exact full_ends r m
theorem lines_toksB (n : Nat → Nat) : ∀ (P : List (List UInt8 × List Tok)) (k : Nat), (∀ x ∈ P, Piece x) → fullL (linesP (toksB n P k)) = P.map (·.2)
  | [], k, _ => rfl
  | x :: P, k, h => by
    have hx := h x (by simp)
    have ih := lines_toksB n P (k + 1) (fun y hy => h y (by simp [hy]))
    unfold linesP at ih ⊢
    rw [toksB, List.replicate_succ, List.append_assoc, List.cons_append, linesGo_line _ [] _ hx.no, List.nil_append]
    have : fullL (x.2 :: linesGo (List.replicate (n k) endT ++ toksB n P (k + 1)) []) = x.2 :: fullL (linesGo (List.replicate (n k) endT ++ toksB n P (k + 1)) []) := by
      unfold fullL
      rw [List.filter_cons, if_pos (by
        have := hx.ne
        cases hx2 : x.2 with
        | nil => exact absurd hx2 this
        | cons a b => rfl)]
    rw [this, full_ends, ih]
    rfl
theorem toksB_len (n : Nat → Nat) (hn : ∀ k, n k ≤ 4) : ∀ (P : List (List UInt8 × List Tok)) (k : Nat), (∀ x ∈ P, Piece x) → (toksB n P k).length ≤ 12 * P.length
  | [], k, _ => Nat.le_refl _
  | x :: P, k, h => by
    have ih := toksB_len n hn P (k + 1) (fun y hy => h y (by simp [hy]))
    have h1 := (h x (by simp)).len
    have h2 := hn k
    rw [toksB, List.length_append, List.length_append, List.length_replicate, List.length_cons]
    omega
theorem blankB_len (f g : Nat → List UInt8) (hfg : ∀ k, (f k).length ≤ 7 ∧ (g k).length ≤ 2) : ∀ (P : List (List UInt8 × List Tok)) (k : Nat), (blankB f g P k).length ≤ (plainB_ P).length + 9 * P.length
  | [], k => Nat.zero_le _
  | x :: P, k => by
    have ih := blankB_len f g hfg P (k + 1)
    have h1 := (hfg k).1
    have h2 := (hfg (k + 1)).2
    have e : plainB_ (x :: P) = x.1 ++ (10 :: plainB_ P) := by simp [plainB_]
    rw [blankB, e]
    simp only [List.length_append, List.length_cons, List.length_nil]
    omega
theorem asmL_full (L : List (List Tok)) : asmL L = asmL (fullL L) := by
  unfold asmL
  rw [readGo_full L]
/-- The lines of a program's text, with their tokens. -/
def headPc (cnt : Int → Nat) (k : Nat) : List (List UInt8 × List Tok) := if 0 < cnt k then [((labelP k).data.toList ++ [32, 58], headToks k)] else []
def piecesOf (cnt : Int → Nat) : List Ins → Nat → List (List UInt8 × List Tok)
  | [], k => headPc cnt k
  | i :: r, k => headPc cnt k ++ (printP (lineToks i), lineToks i) :: piecesOf cnt r (k + 1)
theorem headPc_text (cnt : Int → Nat) (k : Nat) : plainB_ (headPc cnt k) = headP cnt k := by
  unfold headPc headP plainB_
  split <;> simp
theorem pieces_text (cnt : Int → Nat) : ∀ (l : List Ins) (k : Nat), plainB_ (piecesOf cnt l k) = textGo cnt l k
  | [], k => headPc_text cnt k
  | i :: r, k => by
    have ih := pieces_text cnt r (k + 1)
    have h := headPc_text cnt k
    unfold plainB_ at ih h ⊢
    rw [piecesOf, textGo, List.flatMap_append, List.flatMap_cons, ih, h]
    simp
theorem headPc_lines (cnt : Int → Nat) (k : Nat) : (headPc cnt k).map (·.2) = headLines cnt k := by
  unfold headPc headLines
  split <;> rfl
theorem pieces_lines (cnt : Int → Nat) : ∀ (l : List Ins) (k : Nat), (piecesOf cnt l k).map (·.2) = textLines cnt l k
  | [], k => headPc_lines cnt k
  | i :: r, k => by
    rw [piecesOf, textLines, List.map_append, List.map_cons, pieces_lines cnt r (k + 1), headPc_lines]
    simp
theorem headPc_ok (cnt : Int → Nat) (k : Nat) (h : k < 18446744073709551616) : ∀ x ∈ headPc cnt k, Piece x := by
  intro x hx
  unfold headPc at hx
  split at hx
  · obtain rfl := List.mem_singleton.1 hx
    have e := head_print k
    unfold printP at e
    have h1 := seg_line (headToks k) true (by simp [headToks]) (head_form k h)
    have h2 := Cl.line (headToks k) true (head_form k h)
    rw [e] at h1 h2
    exact ⟨h1, h2, by simp [headToks], fun t ht => (head_form k h t ht).2, by simp [headToks]⟩
  · cases hx
theorem pieces_ok (cnt : Int → Nat) : ∀ (l : List Ins) (k : Nat), k + l.length ≤ 100000 → (∀ i ∈ l, plainB i.op i.a i.b i.c i.imm = true) → (∀ i ∈ l, 0 ≤ i.imm ∧ i.imm ≤ 18446744073709551615) → ∀ x ∈ piecesOf cnt l k, Piece x
  | [], k, hk, _, _ => headPc_ok cnt k (by simp at hk; omega)
  | i :: r, k, hk, hp, hm => by
    rw [List.length_cons] at hk
    intro x hx
    rw [piecesOf] at hx
    rcases List.mem_append.1 hx with hx | hx
    · exact headPc_ok cnt k (by omega) x hx
    · rcases List.mem_cons.1 hx with rfl | hx
      · have hf := line_form (hp i (by simp)) (hm i (by simp))
        exact ⟨seg_line (lineToks i) true (line_ne i) hf, Cl.line (lineToks i) true hf, line_ne i, fun t ht => (hf t ht).2, line_len i⟩
      · exact pieces_ok cnt r (k + 1) (by omega) (fun j hj => hp j (by simp [hj])) (fun j hj => hm j (by simp [hj])) x hx
theorem pieces_len (cnt : Int → Nat) : ∀ (l : List Ins) (k : Nat), (piecesOf cnt l k).length ≤ 2 * l.length + 1
  | [], k => by rw [piecesOf]; unfold headPc; split <;> simp
  | i :: r, k => by
    have ih := pieces_len cnt r (k + 1)
    have : (headPc cnt k).length ≤ 1 := by unfold headPc; split <;> simp
    rw [piecesOf]
    simp only [List.length_append, List.length_cons]
    omega
/-- A program's text with blanks about its lines is read as the program. -/
theorem asm_blank {code : List Ins} (hf : fitsP code = true) (hok : ∀ i ∈ code, i.Ok) {f g : Nat → List UInt8} {n : Nat → Nat} (hg : ∀ k, Gap (f k ++ [10] ++ g (k + 1)) (n k)) (hn : ∀ k, n k ≤ 4) (hfg : ∀ k, (f k).length ≤ 7 ∧ (g k).length ≤ 2) :
    (blankR f g (runesOf (textP code).data.toList) 0).length ≤ 60000 ∧ ∃ a, asmP ⟨(blankR f g (runesOf (textP code).data.toList) 0).toArray⟩ = (code, a, 0) := by
  obtain ⟨h1, h2, cnt, h3, h4, h5⟩ := fits_some hf
  have hm : ∀ i ∈ code, 0 ≤ i.imm ∧ i.imm ≤ 18446744073709551615 := fun i hi => (hok i hi).imm
  have hP := pieces_ok cnt code 0 (by omega) h2 hm
  have hl := textGo_le cnt code 0 (by omega) hm
  have hpl := pieces_len cnt code 0
  have hb := blankB_len f g hfg (piecesOf cnt code 0) 0
  rw [h4, show (⟨(textGo cnt code 0).toArray⟩ : ByteArray).data.toList = textGo cnt code 0 from rfl, ← pieces_text, blankR_B f g _ 0 hP]
  rw [pieces_text] at hb
  refine ⟨by omega, ?_⟩
  have hs := seg_blanks hg (piecesOf cnt code 0) 0 hP
  have ht := toksB_len n hn (piecesOf cnt code 0) 0 hP
  have ha := asm_seg hs (by omega) (by omega)
  rw [asmL_full, lines_toksB n _ 0 hP, pieces_lines, asm_lines hf (fun i hi => (hm i hi).1) cnt (fun i hi hg => (h5 i.imm).2 ⟨i, hi, hg, rfl⟩)] at ha
  generalize asmP ⟨(blankB f g (piecesOf cnt code 0) 0).toArray⟩ = R at ha
  obtain ⟨x, y, z⟩ := R
  injection ha with e1 e2
  exact ⟨y, by rw [show x = code from e1, show z = 0 from e2]⟩
/-- What the law puts ahead of a line's end, and behind it. -/
def preS : Nat → ByteArray
  | 0 => ⟨#[]⟩
  | 1 => ⟨#[32, 35, 32, 120]⟩
  | 2 => ⟨#[9]⟩
  | _ => ⟨#[13, 10, 10, 35, 32, 121, 10]⟩
def postS : Nat → ByteArray
  | 0 => ⟨#[]⟩
  | 1 => ⟨#[32]⟩
  | 2 => ⟨#[9, 9]⟩
  | _ => ⟨#[10]⟩
theorem pre_gap (a : Nat) : ∃ n, n ≤ 3 ∧ Gap ((preS a).data.toList ++ [10]) n := by
  have hx : ∀ w : List UInt8, (∀ y ∈ w, y.toNat < 128 ∧ y ≠ 10) → ∀ x ∈ runesOf w, x.1 ≠ 10 := by
    intro w hw x hx
    obtain ⟨rs, h1, h2, h3⟩ := Cl.bytes hw []
    rw [List.append_nil, show runesOf [] = [] from rfl, List.append_nil] at h1
    rw [h1] at hx
    exact (h3 x hx).1
  have hrem : ∀ w : List UInt8, (∀ y ∈ w, y.toNat < 128 ∧ y ≠ 10) → SegA (35 :: (w ++ [10])) [endT] := fun w hw => seg_remark (hx w hw)
  have g0 : Gap ([] ++ [10]) 0 := ⟨⟨10, [], rfl, rfl⟩, seg_nl⟩
  have g1 : Gap ([32, 35, 32, 120] ++ [10]) 0 := ⟨⟨32, _, rfl, rfl⟩, (seg_blank (.inl rfl)).app (hrem [32, 120] (by decide))⟩
  have g2 : Gap ([9] ++ [10]) 0 := ⟨⟨9, _, rfl, rfl⟩, (seg_blank (.inr (.inl rfl))).app seg_nl⟩
  have g3 : Gap ([13, 10, 10, 35, 32, 121, 10] ++ [10]) 3 := ⟨⟨13, _, rfl, rfl⟩, (seg_blank (.inr (.inr rfl))).app (seg_nl.app (seg_nl.app ((hrem [32, 121] (by decide)).app seg_nl)))⟩
  match a with
  | 0 => exact ⟨0, by omega, g0⟩
  | 1 => exact ⟨0, by omega, g1⟩
  | 2 => exact ⟨0, by omega, g2⟩
  | _ + 3 => exact ⟨3, by omega, g3⟩
theorem post_seg (b : Nat) : ∃ m, m ≤ 1 ∧ SegA (postS b).data.toList (List.replicate m endT) := by
  match b with
  | 0 => exact ⟨0, by omega, SegA.nil⟩
  | 1 => exact ⟨0, by omega, seg_blank (.inl rfl)⟩
  | 2 => exact ⟨0, by omega, (seg_blank (.inr (.inl rfl))).app (seg_blank (.inr (.inl rfl)))⟩
  | _ + 3 => exact ⟨1, by omega, seg_nl⟩
theorem law_gap (a b : Nat) : ∃ n, n ≤ 4 ∧ Gap ((preS a).data.toList ++ [10] ++ (postS b).data.toList) n := by
  obtain ⟨n, hn, hg⟩ := pre_gap a
  obtain ⟨m, hm, hs⟩ := post_seg b
  refine ⟨n + m, by omega, ?_, ?_⟩
  · obtain ⟨c, r, e, hc⟩ := hg.head
    exact ⟨c, r ++ (postS b).data.toList, by rw [e]; rfl, hc⟩
  · have := hg.seg.app hs
    rw [List.replicate_append_replicate] at this
    rw [show n + m + 1 = n + 1 + m by omega]
    exact this
theorem pre_len (a : Nat) : (preS a).size ≤ 7 := by match a with | 0 => decide | 1 => decide | 2 => decide | _ + 3 => exact (show 7 ≤ 7 by omega)
theorem post_len (b : Nat) : (postS b).size ≤ 2 := by match b with | 0 => decide | 1 => decide | 2 => decide | _ + 3 => exact (show 1 ≤ 2 by omega)
/-- The law's text. -/
def lawB (f g : Nat → Nat) (T : ByteArray) : List UInt8 := blankR (fun k => (preS (f k)).data.toList) (fun k => (postS (g k)).data.toList) (runesOf T.data.toList) 0
theorem asm_lawB {code : List Ins} (hf : fitsP code = true) (hok : ∀ i ∈ code, i.Ok) (f g : Nat → Nat) : (lawB f g (textP code)).length ≤ 60000 ∧ ∃ a, asmP ⟨(lawB f g (textP code)).toArray⟩ = (code, a, 0) := by
  refine asm_blank hf hok (n := fun k => (law_gap (f k) (g (k + 1))).choose) (fun k => (law_gap (f k) (g (k + 1))).choose_spec.2) (fun k => (law_gap (f k) (g (k + 1))).choose_spec.1) (fun k => ⟨pre_len _, post_len _⟩)
/-- Where a rune stands. -/
theorem rune_at : ∀ (done : List (Nat × List UInt8)) (l : List UInt8) (c : Nat) (b : List UInt8) (r : List (Nat × List UInt8)), runesOf l = done ++ (c, b) :: r →
    bytesOf done < l.length ∧ decodeL (l.drop (bytesOf done)) = (c, b.length) ∧ 1 ≤ b.length ∧ bytesOf done + b.length ≤ l.length
  | [], l, c, b, r, h => by
    have hl : l ≠ [] := by intro e; subst e; simp [runesOf_nil] at h
    have h0 : 0 < l.length := List.length_pos_iff.2 hl
    have hp := decodeL_pos hl
    have hle := Lib.decodeL_le l hl
    rw [runesOf_cons hl, List.nil_append] at h
    injection h with h1 h2
    injection h1 with h1 h3
    have hb : b.length = (decodeL l).2 := by rw [← h3, List.length_take]; omega
    refine ⟨h0, ?_, by omega, by simp [bytesOf]; omega⟩
    show decodeL l = _
    rw [hb, ← h1]
  | (c0, b0) :: done, l, c, b, r, h => by
    have hl : l ≠ [] := by intro e; subst e; simp [runesOf_nil] at h
    have hp := decodeL_pos hl
    have hle := Lib.decodeL_le l hl
    rw [runesOf_cons hl, List.cons_append] at h
    injection h with h1 h2
    injection h1 with h1 h3
    obtain ⟨g1, g2, g3, g4⟩ := rune_at done _ c b r h2
    have hb : b0.length = (decodeL l).2 := by rw [← h3, List.length_take]; omega
    rw [List.length_drop] at g1 g4
    have e : bytesOf ((c0, b0) :: done) = (decodeL l).2 + bytesOf done := by simp [bytesOf, hb]
    rw [e]
    rw [List.drop_drop] at g2
    exact ⟨by omega, g2, g3, by omega⟩
end Go.Proofs.YthdlihiehfkceaaDoor

namespace Go.Proofs.YthdlihiehfkceaaDoor
open Go.RowKit
set_option linter.unusedVariables false

theorem Rd.getD_ {w : World} {B n b o : Nat} {l : List Int} (h : RdB w B (some ⟨b, o, none⟩) n l) {k : Nat} (hk : k < n) : w.cell? ⟨b, o + k, none⟩ = some (.int .u8 (l.getD k 0)) := by
  obtain ⟨x, hx, hc⟩ := h.byt_ hk
  rw [List.getD_eq_getElem?_getD, hx]; exact hc
theorem byts_getD {l : List Int} (h : Byts l) (k : Nat) : 0 ≤ l.getD k 0 ∧ l.getD k 0 ≤ 255 := by
  rw [List.getD_eq_getElem?_getD]
  cases hx : l[k]? with
  | none => simp
  | some x => exact h x (List.mem_of_getElem? hx)
theorem and3u (x : Int) : ∃ j : Nat, bits .and .u8 x 3 = (j : Int) ∧ j < 4 := by
  have h : (BitVec.ofInt 8 x &&& BitVec.ofInt 8 3).toNat ≤ 3 := by
    rw [BitVec.toNat_and]
    exact Nat.le_trans Nat.and_le_right (by decide)
  refine ⟨(BitVec.ofInt 8 x &&& BitVec.ofInt 8 3).toNat, ?_, by omega⟩
  show IntKind.u8.wrap ((BitVec.ofInt 8 x &&& BitVec.ofInt 8 3).toNat : Int) = _
  rw [IntKind.wrap_u8]
  omega
def preF (bs : List Int) (n k : Nat) : Nat := (bits .and .u8 (bs.getD (k % n) 0) 3).toNat
theorem preF_is (bs : List Int) (n k : Nat) {x : Int} (h : bs.getD (k % n) 0 = x) : bits .and .u8 x 3 = ((preF bs n k : Nat) : Int) ∧ preF bs n k < 4 := by
  subst h
  obtain ⟨j, h1, h2⟩ := and3u (bs.getD (k % n) 0)
  unfold preF
  rw [h1]
  exact ⟨by simp, by simpa using h2⟩

def shr2 (x : Int) : Int := x / 4
def postF (bs : List Int) (n k : Nat) : Nat := (bits .and .u8 (shr2 (bs.getD (k % n) 0)) 3).toNat
theorem postF_is (bs : List Int) (n k : Nat) {x : Int} (h : bs.getD (k % n) 0 = x) : bits .and .u8 (shr2 x) 3 = ((postF bs n k : Nat) : Int) ∧ postF bs n k < 4 := by
  subst h
  obtain ⟨j, h1, h2⟩ := and3u (shr2 (bs.getD (k % n) 0))
  unfold postF
  rw [h1]
  exact ⟨by simp, by simpa using h2⟩
theorem kept_pieces : ∀ (P : List (List UInt8 × List Tok)), (∀ x ∈ P, Piece x) → ∀ y ∈ runesOf (plainB_ P), y.1 = 10 ∨ (Utf8.encode (y.1 : Int)).data.toList = y.2
  | [], _, y, hy => by simp [plainB_, runesOf_nil] at hy
  | x :: P, h, y, hy => by
    have ih := kept_pieces P (fun z hz => h z (by simp [hz]))
    have e : plainB_ (x :: P) = x.1 ++ (10 :: plainB_ P) := by simp [plainB_]
    obtain ⟨rs, a1, a2, a3⟩ := (h x (by simp)).cl (10 :: plainB_ P)
    rw [e, a1, runesOf_ascii 10 _ (by decide)] at hy
    rcases List.mem_append.1 hy with hy | hy
    · exact .inr (a3 y hy).2
    · rcases List.mem_cons.1 hy with rfl | hy
      · exact .inl rfl
      · exact ih y hy
theorem kept_text {l : List Ins} (hf : fitsP l = true) (hok : ∀ i ∈ l, i.Ok) : ∀ y ∈ runesOf (textP l).data.toList, y.1 = 10 ∨ (Utf8.encode (y.1 : Int)).data.toList = y.2 := by
  obtain ⟨h1, h2, cnt, h3, h4, h5⟩ := fits_some hf
  have hP := pieces_ok cnt l 0 (by omega) h2 (fun i hi => (hok i hi).imm)
  rw [h4, show (⟨(textGo cnt l 0).toArray⟩ : ByteArray).data.toList = textGo cnt l 0 from rfl, ← pieces_text]
  exact kept_pieces _ hP

set_option maxRecDepth 100000 in
set_option maxHeartbeats 8000000 in
theorem blanks_walk (l : List Ins) (A : Option Addr) (n c : Nat) (ws : List Int) (A' : Option Addr) (m c' : Nat) (W : World) (htab : PowTab W) (rd : RdI W W.heap.size A n l) (hok : ∀ t ∈ l, t.Ok) (hnc : n ≤ c)
    (rd' : RdB W W.heap.size A' m ws) (hy : Byts ws) (hnc' : m ≤ c') :
    Calls Tryd.prog 7 #[.slice A n c, .slice A' m c'] W fun e w' => e = .returned (.bool true) ∧ Below W.heap.size W w' := by
  have hlen := rd.insLen
  have HR := Lib.hid rd
  have HR' := Lib.hid rd'
  have HT := Lib.hid htab
  have HOk := Lib.hid hok
  have HLen := Lib.hid hlen
  clear rd rd' htab hok hlen
  go_enter Tryd.func7, Tryd.ntmps7
  go_wp2_with fail
  refine (alive4_any _ HT.out).mono ?_
  rintro e w1 ⟨rfl, hb1⟩
  have HB1 := Lib.hid hb1
  have HR1 := Lib.hid ((HR.out.below hb1).more hb1.size)
  have HT1 := Lib.hid (HT.out.below hb1)
  clear hb1
  by_cases h40 : 40 < n
  · have g4 : (40 : Int) < (n : Int) := by omega
    clear h40
    go_wp2
    go_ret
    exact ⟨rfl, HB1.out⟩
  have g4 : ¬ (40 : Int) < (n : Int) := by omega
  by_cases h0 : m = 0
  · subst h0
    go_wp2
    go_ret
    exact ⟨rfl, HB1.out⟩
  have g5 : ¬ (m : Int) = 0 := by omega
  have g6 : ((m : Int) == 0) = false := beq_eq_false_iff_ne.2 g5
  have hn1 : n ≤ 100000 := by omega
  have hm0 : 0 < m := by omega
  have hft := rfits_any l A n c w1 HR1.out hn1 HOk.out
  clear h40 h0
  cases hfi : fitsP l
  · rw [hfi] at hft
    go_wp2_with (
      go_at_call 13
      with_reducible refine hft.mono ?_
      rintro e w2 ⟨rfl, hb2⟩
      have HB2 := Lib.hid (HB1.out.trans (hb2.mono HB1.out.size))
      clear hb2)
    go_ret
    exact ⟨rfl, HB2.out⟩
  rw [hfi] at hft
  have HFi := Lib.hid hfi
  have hsz := text_size hfi HOk.out
  obtain ⟨T, hT⟩ : ∃ T, textP l = T := ⟨_, rfl⟩
  have hte := text_any l A n c
  rw [hT] at hte hsz
  have HTe := Lib.hid hte
  have HTx := Lib.hid hT
  clear hte hfi hT
  go_wp2_with (first
    | (go_at_call 13
       with_reducible refine hft.mono ?_
       rintro e w2 ⟨rfl, hb2⟩
       have HB2 := Lib.hid (HB1.out.trans (hb2.mono HB1.out.size))
       have HR2 := Lib.hid ((HR1.out.below hb2).more hb2.size)
       have HT2 := Lib.hid (HT1.out.below hb2)
       clear hb2)
    | (go_at_call 11
       with_reducible refine (HTe.out w2 HR2.out hn1 HOk.out HT2.out).mono ?_
       rintro e w3 ⟨rfl, hb3⟩
       have HB3 := Lib.hid (HB2.out.trans (hb3.mono HB2.out.size))
       clear hb3))
  clear hft
  obtain ⟨f, hf⟩ : ∃ f, preF ws m = f := ⟨_, rfl⟩
  obtain ⟨g, hg⟩ : ∃ g, postF ws m = g := ⟨_, rfl⟩
  have HF : Hid (∀ k x, ws.getD (k % m) 0 = x → bits .and .u8 x 3 = ((f k : Nat) : Int) ∧ f k < 4) := by intro k x h; rw [← hf]; exact preF_is ws m k h
  have HG : Hid (∀ k x, ws.getD (k % m) 0 = x → bits .and .u8 (shr2 x) 3 = ((g k : Nat) : Int) ∧ g k < 4) := by intro k x h; rw [← hg]; exact postF_is ws m k h
  obtain ⟨B, hB⟩ : ∃ B, lawB f g T = B := ⟨_, rfl⟩
  have hlb := asm_lawB HFi.out HOk.out f g
  rw [HTx.out, hB] at hlb
  obtain ⟨hBl, aa, hAs⟩ := hlb
  have HAs := Lib.hid hAs
  obtain ⟨PF, hPF⟩ : ∃ PF : Nat → List UInt8, (fun k => (preS (f k)).data.toList) = PF := ⟨_, rfl⟩
  obtain ⟨PG, hPG⟩ : ∃ PG : Nat → List UInt8, (fun k => (postS (g k)).data.toList) = PG := ⟨_, rfl⟩
  have hB0 : blankR PF PG (runesOf T.data.toList) 0 = B := by rw [← hPF, ← hPG]; exact hB
  have HPF : Hid (∀ k, PF k = (preS (f k)).data.toList) := by intro k; rw [← hPF]
  have HPG : Hid (∀ k, PG k = (postS (g k)).data.toList) := by intro k; rw [← hPG]
  have hrl := runesOf_length _ T.data.toList (Nat.le_refl _)
  have hTl : T.data.toList.length = T.size := rfl
  obtain ⟨RT, hRT⟩ : ∃ RT, runesOf T.data.toList = RT := ⟨_, rfl⟩
  rw [hRT] at hB0 hrl
  have hRl : RT.length ≤ 60000 := by omega
  have HRT := Lib.hid hRT
  have HBl := Lib.hid hBl
  have hkp := kept_text (l := l) HFi.out HOk.out
  rw [HTx.out, HRT.out] at hkp
  have HKp := Lib.hid hkp
  clear hf hg hPF hPG hAs hB hRT hrl hTl hBl hkp
  have HB0 : Hid (Below W.heap.size W (w3.iter T 0)) := HB3.out.alloc HB3.out.size _
  have HSw : Hid (W.heap.size ≤ w3.heap.size) := HB3.out.size
  go_loopw [5, 6] (fun sv i wr => ∃ (done rs : List (Nat × List UInt8)) (k : Nat) (acc : List UInt8), (i = .int .i64 k ∧ sv = .string ⟨acc.toArray⟩ ∧ k ≤ done.length) ∧ Hid (done ++ rs = RT) ∧ Hid (acc ++ blankR PF PG rs k = B) ∧ wr.heap[w3.heap.size]? = some (.stringIter T (bytesOf done)) ∧ Hid (Below W.heap.size W wr)) (fun _ _ wr => T.size - wr.iterPos w3.heap.size)
  case atStart => exact ⟨[], RT, 0, [], ⟨rfl, rfl, Nat.le_refl _⟩, rfl, hB0, World.iter_heap w3 T 0, HB0.out⟩
  case round =>
    obtain ⟨done, rs, k, acc, ⟨rfl, rfl, hkd⟩, HD, HA, hit, HB⟩ := hrel
    have HI := Lib.hid hit
    clear hit
    have hdl : done.length ≤ 60000 := by have h := congrArg List.length HD.out; rw [List.length_append] at h; omega
    have hacl : acc.length ≤ 60000 := by have h := congrArg List.length HA.out; rw [List.length_append] at h; have := HBl.out; omega
    have hk60 : k ≤ 60000 := by omega
    cases rs with
    | nil =>
      have hfin : bytesOf done = T.size := by
        have h := HD.out
        rw [List.append_nil] at h
        rw [h, ← HRT.out, bytesOf_runes _ _ (Nat.le_refl _)]; rfl
      have hnx : ∀ ty, (Instr.next (.pointer (some ⟨w3.heap.size, 0, none⟩)) true ty).run Tryd.prog wr = _ := fun ty => Lib.run_next_end_at wr w3.heap.size T (bytesOf done) ty HI.out (by rw [hfin]; omega)
      have hac := HA.out
      rw [blankR, List.append_nil] at hac
      subst hac
      have hSl : (⟨acc.toArray⟩ : ByteArray).size ≤ maxLen := by show acc.toArray.size ≤ _; rw [List.size_toArray]; unfold maxLen; omega
      have hll : n = l.length := HLen.out.symm
      have HLL := Lib.hid hll
      have HRw := Lib.hid (HR.out.below HB.out)
      clear hll hfin
      go_wp2_with (first
        | (go_at_call 14
           refine (asm_to HAs.out _ hSl).mono ?_
           rintro e u1 ⟨A1, c1, rfl, hc1, hr1, _, hb1⟩
           have HR1' := Lib.hid hr1
           have HB1' := Lib.hid (HB.out.trans (hb1.mono HB.out.size))
           have HW1 := Lib.hid ((HR.out.below HB1'.out).more HB1'.out.size)
           clear hb1 hr1 hc1)
        | (go_at_call 15
           refine (same_is l A1 A l.length c1 n c u1 HR1'.out HW1.out).mono ?_
           rintro e u2 ⟨rfl, hb2⟩
           have HB2' := Lib.hid (HB1'.out.trans (hb2.mono HB1'.out.size))
           clear hb2))
      go_ret
      exact ⟨rfl, HB2'.out⟩
    | cons cb rs =>
      obtain ⟨cr, b⟩ := cb
      obtain ⟨h1, h2, h3, h4⟩ := rune_at done T.data.toList cr b rs (by rw [HRT.out, HD.out])
      rw [Lib.decodeL_drop] at h2
      have h1' : bytesOf done < T.size := h1
      have hnx : ∀ ty, (Instr.next (.pointer (some ⟨w3.heap.size, 0, none⟩)) true ty).run Tryd.prog wr = _ := fun ty => Lib.run_next_any_at wr w3.heap.size T (bytesOf done) ty HI.out h1'
      rw [h2] at hnx
      simp only at hnx
      have hby : bytesOf (done ++ [(cr, b)]) = bytesOf done + b.length := by simp [bytesOf]
      rw [← hby] at hnx h4
      have H34 : Hid (bytesOf done < bytesOf (done ++ [(cr, b)]) ∧ bytesOf (done ++ [(cr, b)]) ≤ T.size) := ⟨by rw [hby]; omega, h4⟩
      have hit2 := Lib.hid (Lib.iterAt_heap wr w3.heap.size T (bytesOf done) (bytesOf (done ++ [(cr, b)])) HI.out)
      have hb2 := Lib.hid (Lib.below_iterAt HB.out (k := w3.heap.size) HSw.out T (bytesOf (done ++ [(cr, b)])))
      have HD2 : Hid ((done ++ [(cr, b)]) ++ rs = RT) := by show _ = _; rw [List.append_assoc]; exact HD.out
      have hKb := HKp.out (cr, b) (by rw [← HD.out]; simp)
      have hha := HA.out
      rw [blankR] at hha
      clear h1 h2 h3 h4 h1' hby
      obtain ⟨V, hV⟩ : ∃ V, wr.iterAt w3.heap.size T (bytesOf (done ++ [(cr, b)])) = V := ⟨_, rfl⟩
      rw [hV] at hnx hit2 hb2
      clear hV
      have hSV : w3.heap.size < V.heap.size := (Array.getElem?_eq_some_iff.1 hit2.out).1
      have HSV := Lib.hid hSV
      clear hSV
      by_cases hc10 : cr = 10
      · subst hc10
        rw [if_pos rfl] at hha
        have HA2 := Lib.hid hha
        clear hha hKb
        obtain ⟨r, hr⟩ : ∃ r, k % m = r := ⟨_, rfl⟩
        have hrm : r < m := by rw [← hr]; exact Nat.mod_lt _ hm0
        have hmod : (k : Int).tmod (m : Int) = (r : Int) := by rw [← hr, Int.ofNat_tmod]
        obtain ⟨r2, hr2⟩ : ∃ r2, (k + 1) % m = r2 := ⟨_, rfl⟩
        have hrm2 : r2 < m := by rw [← hr2]; exact Nat.mod_lt _ hm0
        have hmod2 : ((k : Int) + 1).tmod (m : Int) = (r2 : Int) := by rw [← hr2, show (k : Int) + 1 = ((k + 1 : Nat) : Int) by omega, Int.ofNat_tmod]
        obtain ⟨x, hx⟩ : ∃ x, ws.getD r 0 = x := ⟨_, rfl⟩
        obtain ⟨x2, hx2⟩ : ∃ x, ws.getD r2 0 = x := ⟨_, rfl⟩
        obtain ⟨f1, f2⟩ := HF.out k x (by rw [hr]; exact hx)
        obtain ⟨g1, g2⟩ := HG.out (k + 1) x2 (by rw [hr2]; exact hx2)
        unfold shr2 at g1
        have hxb := byts_getD hy r
        have hxb2 := byts_getD hy r2
        rw [hx] at hxb
        rw [hx2] at hxb2
        obtain ⟨bA, oA, rfl, hbA, _⟩ := HR'.out.at_ hm0
        obtain ⟨fk, hfk⟩ : ∃ fk, f k = fk := ⟨_, rfl⟩
        obtain ⟨gk, hgk⟩ : ∃ gk, g (k + 1) = gk := ⟨_, rfl⟩
        rw [hfk] at f1 f2
        rw [hgk] at g1 g2
        have hpl := pre_len fk
        have hql := post_len gk
        have HPk : Hid (PF k = (preS fk).data.toList) := by show _ = _; rw [HPF.out, hfk]
        have HPk2 : Hid (PG (k + 1) = (postS gk).data.toList) := by show _ = _; rw [HPG.out, hgk]
        have y1 : (V.alloc (.cells #[.string ⟨#[]⟩, .string ⟨#[32, 35, 32, 120]⟩, .string ⟨#[9]⟩, .string ⟨#[13, 10, 10, 35, 32, 121, 10]⟩] 9)).cell? ⟨bA, oA + r, none⟩ = some (.int .u8 x) := by
          rw [← hx]
          exact ((HR'.out.below hb2.out).alloc hb2.out.size _).getD_ hrm
        have HBk : Hid (∀ j, j < 4 → (V.alloc (.cells #[.string ⟨#[]⟩, .string ⟨#[32, 35, 32, 120]⟩, .string ⟨#[9]⟩, .string ⟨#[13, 10, 10, 35, 32, 121, 10]⟩] 9)).cell? ⟨V.heap.size, j, none⟩ = some (.string (preS j))) := by
          have hb : Bk (V.alloc (.cells #[.string ⟨#[]⟩, .string ⟨#[32, 35, 32, 120]⟩, .string ⟨#[9]⟩, .string ⟨#[13, 10, 10, 35, 32, 121, 10]⟩] 9)) V.heap.size 9 #[.string ⟨#[]⟩, .string ⟨#[32, 35, 32, 120]⟩, .string ⟨#[9]⟩, .string ⟨#[13, 10, 10, 35, 32, 121, 10]⟩] := Bk.new _ _ _
          intro j hj
          obtain rfl | rfl | rfl | rfl : j = 0 ∨ j = 1 ∨ j = 2 ∨ j = 3 := by omega
          · exact hb.cell 0
          · exact hb.cell 1
          · exact hb.cell 2
          · exact hb.cell 3
        have y2 := HBk.out fk f2
        have y1b : V.cell? ⟨bA, oA + r, none⟩ = some (.int .u8 x) := by
          rw [← hx]
          exact (HR'.out.below hb2.out).getD_ hrm
        have HX2 := Lib.hid hx2
        clear hr hr2 hx hx2 hfk hgk HBk
        obtain ⟨PS, hPS⟩ : ∃ PS, preS fk = PS := ⟨_, rfl⟩
        rw [hPS] at y2 hpl
        have HPS := Lib.hid hPS
        clear hPS
        go_upto_region 11 with fail
        obtain ⟨V2, hV2⟩ : ∃ V2, V.alloc (.cells #[.string ⟨#[]⟩, .string ⟨#[32, 35, 32, 120]⟩, .string ⟨#[9]⟩, .string ⟨#[13, 10, 10, 35, 32, 121, 10]⟩] 9) = V2 := ⟨_, rfl⟩
        rw [hV2] at y1 y2 ⊢
        have HB2' : Hid (Below W.heap.size W V2) := by show Below _ _ _; rw [← hV2]; exact hb2.out.alloc hb2.out.size _
        have HI2 : Hid (V2.heap[w3.heap.size]? = some (.stringIter T (bytesOf (done ++ [(10, b)])))) := by
          show _ = _
          rw [← hV2]
          exact ((World.grownBy_alloc V _ none).block w3.heap.size HSV.out (by simp)).trans hit2.out
        clear hV2 y1 y2 y1b
        have HSV2 : Hid (w3.heap.size < V2.heap.size) := (Array.getElem?_eq_some_iff.1 HI2.out).1
        have y1 : (V2.alloc (.cells #[.string ⟨#[]⟩, .string ⟨#[32]⟩, .string ⟨#[9, 9]⟩, .string ⟨#[10]⟩] 9)).cell? ⟨bA, oA + r2, none⟩ = some (.int .u8 x2) := by
          rw [← HX2.out]
          exact ((HR'.out.below HB2'.out).alloc HB2'.out.size _).getD_ hrm2
        have HBk : Hid (∀ j, j < 4 → (V2.alloc (.cells #[.string ⟨#[]⟩, .string ⟨#[32]⟩, .string ⟨#[9, 9]⟩, .string ⟨#[10]⟩] 9)).cell? ⟨V2.heap.size, j, none⟩ = some (.string (postS j))) := by
          have hb : Bk (V2.alloc (.cells #[.string ⟨#[]⟩, .string ⟨#[32]⟩, .string ⟨#[9, 9]⟩, .string ⟨#[10]⟩] 9)) V2.heap.size 9 #[.string ⟨#[]⟩, .string ⟨#[32]⟩, .string ⟨#[9, 9]⟩, .string ⟨#[10]⟩] := Bk.new _ _ _
          intro j hj
          obtain rfl | rfl | rfl | rfl : j = 0 ∨ j = 1 ∨ j = 2 ∨ j = 3 := by omega
          · exact hb.cell 0
          · exact hb.cell 1
          · exact hb.cell 2
          · exact hb.cell 3
        have y2 := HBk.out gk g2
        have HI3 : Hid ((V2.alloc (.cells #[.string ⟨#[]⟩, .string ⟨#[32]⟩, .string ⟨#[9, 9]⟩, .string ⟨#[10]⟩] 9)).heap[w3.heap.size]? = some (.stringIter T (bytesOf (done ++ [(10, b)])))) := ((World.grownBy_alloc V2 _ none).block w3.heap.size HSV2.out (by simp)).trans HI2.out
        have HB3' : Hid (Below W.heap.size W (V2.alloc (.cells #[.string ⟨#[]⟩, .string ⟨#[32]⟩, .string ⟨#[9, 9]⟩, .string ⟨#[10]⟩] 9))) := HB2'.out.alloc HB2'.out.size _
        obtain ⟨QS, hQS⟩ : ∃ QS, postS gk = QS := ⟨_, rfl⟩
        rw [hQS] at y2 hql
        have HQS := Lib.hid hQS
        clear hQS HBk
        have y1c : V2.cell? ⟨bA, oA + r2, none⟩ = some (.int .u8 x2) := by
          rw [← HX2.out]
          exact (HR'.out.below HB2'.out).getD_ hrm2
        have hal2 : acc.length + PS.size + 1 + QS.size ≤ 60100 := by omega
        have he10 : (Utf8.encode (10 : Int)).size = 1 := by decide +kernel
        go_wp2
        go_roundw
        case rel =>
          refine ⟨done ++ [(10, b)], rs, k + 1, acc ++ (PS.data.toList ++ [10] ++ QS.data.toList), ⟨by go_num, ?_, by simp; omega⟩, HD2.out, ?_, HI3.out, HB3'.out⟩
          · have e10 : Utf8.encode (10 : Int) = ⟨#[10]⟩ := by decide +kernel
            rw [e10]
            refine congrArg Value.string (ByteArray.ext (Array.toList_inj.1 ?_))
            simp [ByteArray.data_append]
          · have h := HA2.out
            rw [HPk.out, HPk2.out, HPS.out, HQS.out] at h
            show _ = _
            rw [← h]
            simp only [List.append_assoc]
        case measure =>
          have h1 := H34.out
          have hp : (V2.alloc (.cells #[.string ⟨#[]⟩, .string ⟨#[32]⟩, .string ⟨#[9, 9]⟩, .string ⟨#[10]⟩] 9)).iterPos w3.heap.size = bytesOf (done ++ [(10, b)]) := by simp only [World.iterPos, HI3.out]
          have hp2 : wr.iterPos w3.heap.size = bytesOf done := by simp only [World.iterPos, HI.out]
          rw [hp, hp2]
          omega
      · rw [if_neg hc10] at hha
        have HA2 := Lib.hid hha
        clear hha
        have hcb : ((cr : Int) == 10) = false := beq_eq_false_iff_ne.2 (by omega)
        have hcn : ¬ (cr : Int) = 10 := by omega
        have hKc := hKb.resolve_left hc10
        clear hKb
        simp only at hKc
        have hbl : b.length ≤ 60000 := by have h := congrArg List.length HA2.out; simp only [List.length_append] at h; have := HBl.out; omega
        generalize hE : Utf8.encode (cr : Int) = E at hKc
        have hEl : E.size = b.length := by rw [← hKc]; rfl
        have HKc := Lib.hid hKc
        have HE := Lib.hid hE
        clear hE hKc
        have hal2 : acc.length + (Utf8.encode (cr : Int)).size ≤ 120000 := by rw [HE.out]; omega
        go_wp2
        go_roundw
        case rel =>
          refine ⟨done ++ [(cr, b)], rs, k, acc ++ b, ⟨rfl, ?_, by simp; omega⟩, HD2.out, ?_, hit2.out, hb2.out⟩
          · rw [HE.out, ← HKc.out]
            refine congrArg Value.string (ByteArray.ext (Array.toList_inj.1 ?_))
            simp [ByteArray.data_append]
          · show _ = _
            rw [← HA2.out, List.append_assoc]
        case measure =>
          have h1 := H34.out
          have hp : V.iterPos w3.heap.size = bytesOf (done ++ [(cr, b)]) := by simp only [World.iterPos, hit2.out]
          have hp2 : wr.iterPos w3.heap.size = bytesOf done := by simp only [World.iterPos, HI.out]
          rw [hp, hp2]
          omega
end Go.Proofs.YthdlihiehfkceaaDoor
