/-
  Texts of one proof, joined (wip/gen/pack.py): FitP, CtrG, CtrH, LawA2.
-/
import Derived.Test.YthdlihiehfkceaaDoorPtBAA
import Derived.Test.YthdlihiehfkceaaDoorPtAE
import Derived.Test.YthdlihiehfkceaaDoorPtAH
import Derived.Test.YthdlihiehfkceaaDoorPtAA
import Derived.Deep.QuietTactic
import Derived.BigQuiet
import Derived.Test.YthdlihiehfkceaaDoorPtAI
namespace Go.Proofs.YthdlihiehfkceaaDoor
open Go.RowKit
set_option linter.unusedVariables false

structure TkOk (f : List Nat) (o o' : Ord) : Prop where
  op : o'.i.op = o.i.op
  a0 : 97 ∉ f → o'.i.a = o.i.a
  b0 : 98 ∉ f → o'.i.b = o.i.b
  c0 : 99 ∉ f → o'.i.c = o.i.c
  m0 : 105 ∉ f → o'.i.imm = o.i.imm
  n0 : 108 ∉ f → o'.name = o.name
  n1 : 108 ∈ f → o'.name ≠ ⟨#[]⟩
  a1 : 0 ≤ o.i.a ∧ o.i.a < 16 → 0 ≤ o'.i.a ∧ o'.i.a < 16
  b1 : 0 ≤ o.i.b ∧ o.i.b < 16 → 0 ≤ o'.i.b ∧ o'.i.b < 16
  c1 : 0 ≤ o.i.c ∧ o.i.c < 16 → 0 ≤ o'.i.c ∧ o'.i.c < 16
  m1 : 0 ≤ o.i.imm ∧ o.i.imm ≤ 18446744073709551615 → 0 ≤ o'.i.imm ∧ o'.i.imm ≤ 18446744073709551615
theorem TkOk.nil (o : Ord) : TkOk [] o o := ⟨rfl, fun _ => rfl, fun _ => rfl, fun _ => rfl, fun _ => rfl, fun _ => rfl, fun h => absurd h (by simp), id, id, id, id⟩
theorem TkOk.trans {c : Nat} {f : List Nat} {o o1 o2 : Ord} (h : TkOk [c] o o1) (k : TkOk f o1 o2) : TkOk (c :: f) o o2 := by
  refine ⟨k.op.trans h.op, fun e => ?_, fun e => ?_, fun e => ?_, fun e => ?_, fun e => ?_, fun e => ?_, fun e => k.a1 (h.a1 e), fun e => k.b1 (h.b1 e), fun e => k.c1 (h.c1 e), fun e => k.m1 (h.m1 e)⟩
  · simp only [List.mem_cons, not_or] at e; exact (k.a0 e.2).trans (h.a0 (by simp; exact e.1))
  · simp only [List.mem_cons, not_or] at e; exact (k.b0 e.2).trans (h.b0 (by simp; exact e.1))
  · simp only [List.mem_cons, not_or] at e; exact (k.c0 e.2).trans (h.c0 (by simp; exact e.1))
  · simp only [List.mem_cons, not_or] at e; exact (k.m0 e.2).trans (h.m0 (by simp; exact e.1))
  · simp only [List.mem_cons, not_or] at e; exact (k.n0 e.2).trans (h.n0 (by simp; exact e.1))
  · by_cases hf : 108 ∈ f
    · exact k.n1 hf
    · rw [k.n0 hf]
      simp only [List.mem_cons] at e
      exact h.n1 (by rcases e with e | e; simp [e]; exact absurd e hf)
theorem form_u64 {t : Tok} (h : Form t) : 0 ≤ t.num ∧ t.num ≤ 18446744073709551615 := by
  rcases h with ⟨_, _, _, _, h⟩ | ⟨_, _, u, hu, h⟩ | ⟨_, h, _⟩ | ⟨_, _, h⟩ <;> omega
theorem form_word {t : Tok} (h : Form t) (hk : t.kind = 0) : t.text ≠ ⟨#[]⟩ := by
  rcases h with ⟨_, h, _⟩ | ⟨h, _⟩ | ⟨h, _⟩ | ⟨h, _⟩
  · obtain ⟨x, r, e, _⟩ := h
    intro e2; rw [e2] at e; cases e
  all_goals omega
theorem takeP_tk (c : Nat) (t : Tok) (o : Ord) (h : (takeP c t o).2 = true) (hf : Form t) : TkOk [c] o (takeP c t o).1 := by
  have hr := regP_range t.text
  unfold takeP at h ⊢
  simp only at h ⊢
  by_cases h1 : c = 97
  · subst h1
    simp only [if_true] at h ⊢
    have hn : 0 ≤ (if t.kind = 0 then regP t.text else -1) ∧ (if t.kind = 0 then regP t.text else -1) < 16 := by
      have := of_decide_eq_true h
      refine ⟨this, ?_⟩
      split <;> omega
    refine ⟨rfl, fun e => absurd e (by simp), fun _ => rfl, fun _ => rfl, fun _ => rfl, fun _ => rfl, fun e => absurd e (by simp), fun _ => hn, id, id, id⟩
  rw [if_neg h1] at h ⊢
  by_cases h2 : c = 98
  · subst h2
    simp only [if_true] at h ⊢
    have hn : 0 ≤ (if t.kind = 0 then regP t.text else -1) ∧ (if t.kind = 0 then regP t.text else -1) < 16 := by
      have := of_decide_eq_true h
      refine ⟨this, ?_⟩
      split <;> omega
    refine ⟨rfl, fun _ => rfl, fun e => absurd e (by simp), fun _ => rfl, fun _ => rfl, fun _ => rfl, fun e => absurd e (by simp), id, fun _ => hn, id, id⟩
  rw [if_neg h2] at h ⊢
  by_cases h3 : c = 99
  · subst h3
    simp only [if_true] at h ⊢
    have hn : 0 ≤ (if t.kind = 0 then regP t.text else -1) ∧ (if t.kind = 0 then regP t.text else -1) < 16 := by
      have := of_decide_eq_true h
      refine ⟨this, ?_⟩
      split <;> omega
    refine ⟨rfl, fun _ => rfl, fun _ => rfl, fun e => absurd e (by simp), fun _ => rfl, fun _ => rfl, fun e => absurd e (by simp), id, id, fun _ => hn, id⟩
  rw [if_neg h3] at h ⊢
  by_cases h4 : c = 105
  · subst h4
    simp only [if_true] at h ⊢
    refine ⟨rfl, fun _ => rfl, fun _ => rfl, fun _ => rfl, fun e => absurd e (by simp), fun _ => rfl, fun e => absurd e (by simp), id, id, id, fun _ => form_u64 hf⟩
  rw [if_neg h4] at h ⊢
  by_cases h5 : c = 108
  · subst h5
    simp only [if_true, Bool.and_eq_true, decide_eq_true_eq] at h ⊢
    refine ⟨rfl, fun _ => rfl, fun _ => rfl, fun _ => rfl, fun _ => rfl, fun e => absurd e (by simp), fun _ => form_word hf h.1, id, id, id, id⟩
  rw [if_neg h5] at h ⊢
  split
  · exact ⟨rfl, fun _ => rfl, fun _ => rfl, fun _ => rfl, fun _ => rfl, fun _ => rfl, fun e => absurd ((List.mem_singleton.1 e).symm) h5, id, id, id, id⟩
  · exact ⟨rfl, fun _ => rfl, fun _ => rfl, fun _ => rfl, fun _ => rfl, fun _ => rfl, fun e => absurd ((List.mem_singleton.1 e).symm) h5, id, id, id, id⟩
theorem takes_tk : ∀ (f : List Nat) (l : List Tok) (o : Ord), l.map clsT = f.map clsF → (∀ t ∈ l, Form t) → TkOk f o (takes f l o)
  | [], l, o, _, _ => by rw [show takes [] l o = o from by cases l <;> rfl]; exact TkOk.nil o
  | c :: f, [], o, h, _ => by simp at h
  | c :: f, t :: l, o, h, hf => by
    simp only [List.map_cons, List.cons.injEq] at h
    rw [takes]
    exact (takeP_tk c t o ((take_ok c t o).2 h.1) (hf t (by simp))).trans (takes_tk f l _ h.2 (fun x hx => hf x (by simp [hx])))
/-- An order that has been read. -/
structure OrdOk (o : Ord) : Prop where
  pl : plainB o.i.op o.i.a o.i.b o.i.c o.i.imm = true
  imm : 0 ≤ o.i.imm ∧ o.i.imm ≤ 18446744073709551615
  go : goesP o.i.op = true → o.name ≠ ⟨#[]⟩
  stay : goesP o.i.op = false → o.name = ⟨#[]⟩
theorem form_has : ∀ op : Fin 22, (97 ∈ formP (op.val : Nat) → decide (0 < regsOf (op.val : Nat)) = true) ∧ (98 ∈ formP (op.val : Nat) → decide (1 < regsOf (op.val : Nat)) = true) ∧ (99 ∈ formP (op.val : Nat) → decide (2 < regsOf (op.val : Nat)) = true) ∧ (105 ∈ formP (op.val : Nat) → immOf (op.val : Nat) = true) ∧ (108 ∈ formP (op.val : Nat) ↔ goesP (op.val : Nat) = true) := by decide +kernel
theorem field_ok {x : Int} {p : Bool} (h : 0 ≤ x ∧ x < 16) (hp : p = true ∨ x = 0) : fieldB x p = true := by
  unfold fieldB
  rcases hp with rfl | rfl
  · by_cases h0 : x = 0
    · simp [h0]
    · have : 0 < x ∧ x < 16 := by omega
      simp [this]
  · simp
theorem takes_ok {op : Nat} (hop : op < 22) {l : List Tok} (h : l.map clsT = (formP op).map clsF) (hf : ∀ t ∈ l, Form t) : OrdOk (takes (formP op) l (ord0 op l)) := by
  have k := takes_tk (formP op) l (ord0 op l) h hf
  obtain ⟨g1, g2, g3, g4, g5⟩ := form_has ⟨op, hop⟩
  simp only at g1 g2 g3 g4 g5
  have hop' : (takes (formP op) l (ord0 op l)).i.op = (op : Int) := k.op
  have z : (0 : Int) ≤ 0 ∧ (0 : Int) < 16 := by omega
  refine ⟨?_, k.m1 (show (0 : Int) ≤ 0 ∧ (0 : Int) ≤ 18446744073709551615 by omega), ?_, ?_⟩
  · unfold plainB
    rw [hop']
    simp only [Bool.and_eq_true, Bool.or_eq_true]
    refine ⟨⟨⟨⟨?_, field_ok (k.a1 z) ?_⟩, field_ok (k.b1 z) ?_⟩, field_ok (k.c1 z) ?_⟩, ?_⟩
    · rw [decide_eq_true_eq]; omega
    · by_cases e : 97 ∈ formP (op : Int)
      · exact .inl (g1 e)
      · exact .inr (k.a0 e)
    · by_cases e : 98 ∈ formP (op : Int)
      · exact .inl (g2 e)
      · exact .inr (k.b0 e)
    · by_cases e : 99 ∈ formP (op : Int)
      · exact .inl (g3 e)
      · exact .inr (k.c0 e)
    · by_cases e : 105 ∈ formP (op : Int)
      · exact .inl (g4 e)
      · right; rw [decide_eq_true_eq]; exact k.m0 e
  · rw [hop']; intro e; exact k.n1 (g5.2 e)
  · rw [hop']; intro e; exact k.n0 (fun e2 => by rw [g5.1 e2] at e; cases e)
theorem ops_some {l : List Tok} : ∀ {f k : Nat} {o : Ord}, opsGo l f k = some o → ∃ op, k ≤ op ∧ op < k + f ∧ l.map clsT = (formP (op : Nat)).map clsF ∧ o = takes (formP (op : Nat)) l (ord0 (op : Nat) l)
  | 0, k, o, h => by cases h
  | f + 1, k, o, h => by
    rw [opsGo, matchP, match_cls] at h
    by_cases e : l.map clsT = (formP (k : Int)).map clsF
    · rw [if_pos e] at h
      injection h with h
      exact ⟨k, by omega, by omega, e, h.symm⟩
    · rw [if_neg e] at h
      obtain ⟨op, h1, h2, h3⟩ := ops_some h
      exact ⟨op, by omega, by omega, h3⟩
theorem parse_some {l : List Tok} {o : Ord} (h : parseP l = some (.order o)) : ∃ op : Nat, op < 22 ∧ l.map clsT = (formP op).map clsF ∧ o = takes (formP op) l (ord0 op l) := by
  unfold parseP at h
  split at h
  · injection h with h; cases h
  · cases ho : opsGo l 22 0 with
    | none => rw [ho] at h; cases h
    | some o' =>
      rw [ho] at h; injection h with h; injection h with h; subst h
      obtain ⟨op, h1, h2, h3⟩ := ops_some ho
      exact ⟨op, by omega, h3⟩
/-- A program that is being read. -/
structure PrgOk (p : Prg) : Prop where
  len : p.orders.length ≤ 256
  lab : ∀ s q, p.find s = some q → q ≤ p.orders.length
  ord : ∀ o ∈ p.orders, OrdOk o
theorem PrgOk.init : PrgOk ⟨[], []⟩ := ⟨Nat.zero_le _, (fun s q h => by cases h), (fun o h => by cases h)⟩
theorem PrgOk.add {p : Prg} (h : PrgOk p) {l : List Tok} {x : Lin} (hx : parseP l = some x) (hl : ∀ t ∈ l, Form t) : PrgOk (addP p x).1 := by
  cases x with
  | mark s a =>
    unfold addP
    simp only
    split
    · exact h
    · rename_i hn
      refine ⟨h.len, fun t q hq => ?_, h.ord⟩
      rw [find_snoc p.orders p.labels s t _ (by simpa using hn)] at hq
      split at hq
      · injection hq with hq; exact Nat.le_of_eq hq.symm
      · exact h.lab t q hq
  | order o =>
    unfold addP
    simp only
    split
    · exact h
    · rename_i hn
      refine ⟨by simp; omega, fun s q hq => by have h2 := h.lab s q hq; simp; omega, fun o' ho => ?_⟩
      rcases List.mem_append.1 ho with ho | ho
      · exact h.ord o' ho
      · obtain rfl := List.mem_singleton.1 ho
        obtain ⟨op, h1, h2, rfl⟩ := parse_some hx
        exact takes_ok h1 h2 hl
theorem read_ok : ∀ {L : List (List Tok)} {p : Prg}, PrgOk p → (∀ l ∈ L, ∀ t ∈ l, Form t) → PrgOk (readGo L p).1
  | [], p, h, _ => h
  | l :: L, p, h, hl => by
    rw [readGo]
    split
    · exact read_ok h (fun x hx => hl x (by simp [hx]))
    · cases hp : parseP l with
      | none => exact h
      | some x =>
        simp only
        split
        · exact h
        · exact read_ok (h.add hp (hl l (by simp))) (fun x hx => hl x (by simp [hx]))
theorem plain_imm {op a b c m m' : Int} (h : plainB op a b c m = true) (hg : goesP op = true) : plainB op a b c m' = true := by
  have hi : immOf op = true := by
    unfold goesP at hg
    unfold immOf
    simp only [Bool.or_eq_true, decide_eq_true_eq] at hg ⊢
    omega
  unfold plainB at h ⊢
  rw [hi] at h ⊢
  simpa using h
theorem plain_ok {i : Ins} (h : plainB i.op i.a i.b i.c i.imm = true) (hm : 0 ≤ i.imm ∧ i.imm ≤ 18446744073709551615) : i.Ok := by
  obtain ⟨h0, h1, h2, h3⟩ := plain_facts h
  exact ⟨by omega, by omega, by omega, by omega, hm⟩
theorem code_ok (p : Prg) (n : Nat) (hn : n ≤ 256) (hl : ∀ s q, p.find s = some q → q ≤ n) : ∀ (l : List Ord) (k : Nat) (out out' : List Ins) (a : Int), codeGo p l k out = (out', a, 0) → (∀ o ∈ l, OrdOk o) →
    ∃ x, out' = out ++ x ∧ x.length = l.length ∧ fitsGo n x k = true ∧ ∀ i ∈ x, i.plain = true ∧ i.Ok
  | [], k, out, out', a, h, _ => by
    rw [codeGo] at h; injection h with h _
    exact ⟨[], by rw [h, List.append_nil], rfl, rfl, fun i hi => by cases hi⟩
  | o :: l, k, out, out', a, h, ho => by
    have h0 := ho o (by simp)
    rw [codeGo] at h
    by_cases hg : goesP o.i.op = true
    · rw [if_neg (h0.go hg)] at h
      cases hf : p.find o.name with
      | none => rw [hf] at h; simp only at h; injection h with _ h; injection h with _ h; cases h
      | some q =>
        rw [hf] at h
        simp only at h
        have hq := hl _ _ hf
        split at h
        · rename_i hfo
          obtain ⟨x, h1, h2, h3, h4⟩ := code_ok p n hn hl l (k + 1) _ _ a h (fun y hy => ho y (by simp [hy]))
          have hp : plainB o.i.op o.i.a o.i.b o.i.c (q : Int) = true := plain_imm h0.pl hg
          refine ⟨{ o.i with imm := (q : Int) } :: x, by rw [h1]; simp, by simp [h2], ?_, fun i hi => ?_⟩
          · rw [fitsGo, h3, Bool.and_true]
            unfold jumpOk
            show (!goesP o.i.op || (decide ((q : Int) ≤ (n : Int)) && forthP o.i.op k q)) = true
            rw [hg, hfo, decide_eq_true (by omega)]; rfl
          · rcases List.mem_cons.1 hi with rfl | hi
            · exact ⟨hp, plain_ok hp (by show 0 ≤ (q : Int) ∧ (q : Int) ≤ _; omega)⟩
            · exact h4 i hi
        · injection h with _ h; injection h with _ h; cases h
    · have hg' : goesP o.i.op = false := by simpa using hg
      rw [if_pos (h0.stay hg')] at h
      obtain ⟨x, h1, h2, h3, h4⟩ := code_ok p n hn hl l (k + 1) _ _ a h (fun y hy => ho y (by simp [hy]))
      refine ⟨o.i :: x, by rw [h1]; simp, by simp [h2], ?_, fun i hi => ?_⟩
      · rw [fitsGo, h3, Bool.and_true]
        unfold jumpOk
        rw [hg']; rfl
      · rcases List.mem_cons.1 hi with rfl | hi
        · exact ⟨h0.pl, plain_ok h0.pl h0.imm⟩
        · exact h4 i hi
theorem code_bad (p : Prg) : ∀ (l : List Ord) (k : Nat) (out : List Ins), (codeGo p l k out).2.2 ≠ 0 → (codeGo p l k out).1 = []
  | [], k, out, h => absurd rfl h
  | o :: l, k, out, h => by
    rw [codeGo] at h ⊢
    split
    · rename_i hn; rw [if_pos hn] at h; exact code_bad p l _ _ h
    · rename_i hn
      rw [if_neg hn] at h
      cases hf : p.find o.name with
      | none => rfl
      | some q =>
        rw [hf] at h
        simp only at h ⊢
        split
        · rename_i hfo; rw [if_pos hfo] at h; exact code_bad p l _ _ h
        · rfl
/-- An error's program is empty. -/
theorem asm_bad {s : ByteArray} {code : List Ins} {a e : Int} (h : asmP s = (code, a, e)) (he : e ≠ 0) : code = [] := by
  have h1 : (asmP s).2.2 ≠ 0 := by rw [h]; exact he
  have h2 : (asmP s).1 = code := by rw [h]
  rw [← h2]
  clear h h2
  unfold asmP at h1 ⊢
  generalize lexP s = L at h1 ⊢
  obtain ⟨l, x, y⟩ := L
  simp only at h1 ⊢
  by_cases hy : y ≠ 0
  · rw [if_pos hy]
  · rw [if_neg hy] at h1 ⊢
    generalize readGo (linesP l) ⟨[], []⟩ = R at h1 ⊢
    obtain ⟨p, u, v⟩ := R
    simp only at h1 ⊢
    by_cases hv : v ≠ 0
    · rw [if_pos hv]
    · rw [if_neg hv] at h1 ⊢
      exact code_bad p _ _ _ h1
/-- A text's parts, where it is read. -/
theorem asm_parts {s : ByteArray} {code : List Ins} {a : Int} (h : asmP s = (code, a, 0)) : ∃ l x p y, lexP s = (l, x, 0) ∧ readGo (linesP l) ⟨[], []⟩ = (p, y, 0) ∧ codeGo p p.orders 0 [] = (code, a, 0) := by
  unfold asmP at h
  obtain ⟨⟨l, x, e⟩, hL⟩ : ∃ L, lexP s = L := ⟨_, rfl⟩
  rw [hL] at h
  simp only at h
  by_cases he : e ≠ 0
  · rw [if_pos he] at h; injection h with _ h; injection h with _ h; exact absurd h he
  · rw [if_neg he] at h
    obtain ⟨⟨p, y, e2⟩, hR⟩ : ∃ R, readGo (linesP l) ⟨[], []⟩ = R := ⟨_, rfl⟩
    rw [hR] at h
    simp only at h
    by_cases he2 : e2 ≠ 0
    · rw [if_pos he2] at h; injection h with _ h; injection h with _ h; exact absurd h he2
    · rw [if_neg he2] at h
      have h1 : e = 0 := by simpa using he
      have h2 : e2 = 0 := by simpa using he2
      exact ⟨l, x, p, y, by rw [hL, h1], by rw [hR, h2], h⟩
theorem lines_forms {l : List Tok} (h : ∀ t ∈ l, Form t) : ∀ ln ∈ linesP l, ∀ t ∈ ln, Form t := fun ln hln t ht => by
  rcases linesGo_mem hln t ht with h2 | h2
  · cases h2
  · exact h t h2
/-- What is read has a text. -/
theorem asm_fits {s : ByteArray} (hs : s.size ≤ 65536) {code : List Ins} {a : Int} (h : asmP s = (code, a, 0)) : fitsP code = true ∧ ∀ i ∈ code, i.Ok := by
  obtain ⟨l, x, p, y, h1, h2, h3⟩ := asm_parts h
  have hF := (lexP_forms s hs).1
  rw [h1] at hF
  have hP := read_ok PrgOk.init (lines_forms hF)
  rw [h2] at hP
  obtain ⟨c, k1, k2, k3, k4⟩ := code_ok p p.orders.length hP.len hP.lab p.orders 0 [] code a h3 hP.ord
  rw [List.nil_append] at k1
  subst k1
  refine ⟨?_, fun i hi => (k4 i hi).2⟩
  unfold fitsP
  have hlen : p.orders.length ≤ 256 := hP.len
  simp only [Bool.and_eq_true, decide_eq_true_eq]
  refine ⟨⟨by omega, List.all_eq_true.2 fun i hi => (k4 i hi).1⟩, ?_⟩
  rw [k2]; exact k3
end Go.Proofs.YthdlihiehfkceaaDoor

namespace Go.Proofs.YthdlihiehfkceaaDoor
open Go.RowKit
set_option linter.unusedVariables false

theorem info_u8 : (Tryd.prog.info? 5).map (fun i => (i.zero, i.size, i.bytes)) = some (some (.int .u8 0), 1, 1) := by kernel_rfl
theorem info_ins : (Tryd.prog.info? 35).map (fun i => (i.zero, i.size, i.bytes)) = some (some (.agg #[.int .i64 0, .int .i64 0, .int .i64 0, .int .i64 0, .int .u64 0]), 5, 40) := by kernel_rfl

/-- A number's lowest bytes, the lowest first. -/
def numL (n : Int) (k : Nat) : List Int := (List.range k).map fun j => n / 256 ^ j % 256
theorem numL_snoc (n : Int) (k : Nat) : numL n (k + 1) = numL n k ++ [n / 256 ^ k % 256] := by simp [numL, List.range_succ]
theorem numL_length (n : Int) (k : Nat) : (numL n k).length = k := by simp [numL]

/-- The number of some bytes, the lowest first. -/
def getL : List Int → Int
  | [] => 0
  | b :: r => b + 256 * getL r
theorem getL_bd (l : List Int) (h : Byts l) : 0 ≤ getL l ∧ getL l < 256 ^ l.length := by
  induction l with
  | nil => simp [getL]
  | cons b r ih =>
    have hb := h b (by simp)
    have hr := ih (fun x hx => h x (by simp [hx]))
    simp only [getL, List.length_cons, Int.pow_succ]
    omega

end Go.Proofs.YthdlihiehfkceaaDoor

namespace Go.Proofs.YthdlihiehfkceaaDoor
open Go.RowKit
set_option linter.unusedVariables false

theorem neq_ins (x y : Ins) (w : World) :
    (binOp .neq 35 (.agg #[.int .i64 x.op, .int .i64 x.a, .int .i64 x.b, .int .i64 x.c, .int .u64 x.imm]) (.agg #[.int .i64 y.op, .int .i64 y.a, .int .i64 y.b, .int .i64 y.c, .int .u64 y.imm])).run Tryd.prog w = .ok (.bool (!decide (x = y))) w := by
  have e : decide (x = y) = ((x.op == y.op) && (x.a == y.a) && (x.b == y.b) && (x.c == y.c) && (x.imm == y.imm)) := by
    rw [Bool.eq_iff_iff]
    simp only [decide_eq_true_eq, Bool.and_eq_true, beq_iff_eq]
    constructor
    · rintro rfl; simp
    · intro h; exact Ins.ext_ ⟨h.1.1.1.1, h.1.1.1.2, h.1.1.2, h.1.2, h.2⟩
  rw [e]
  go_simp
  by_cases h1 : x.op = y.op
  · by_cases h2 : x.a = y.a
    · by_cases h3 : x.b = y.b
      · by_cases h4 : x.c = y.c
        · by_cases h5 : x.imm = y.imm
          · simp [h1, h2, h3, h4, h5]
          · simp [h1, h2, h3, h4, h5]
        · simp [h1, h2, h3, h4]
      · simp [h1, h2, h3]
    · simp [h1, h2]
  · simp [h1]
theorem same_any (l r : List Ins) (A A' : Option Addr) (n c n' c' : Nat) (w : World) (hl : RdI w w.heap.size A n l) (hr : RdI w w.heap.size A' n' r) :
    Calls Tryd.prog 15 #[.slice A n c, .slice A' n' c'] w fun e w' => e = .returned (.bool (decide (l = r))) ∧ Below w.heap.size w w' := by
  have h63 := hl.le
  have hn := hl.insLen
  have hn' := hr.insLen
  have HL := Lib.hid hl
  have HR := Lib.hid hr
  clear hl hr
  unfold maxLen at h63
  by_cases he : n = n'
  · have HN := Lib.hid hn
    have HN' := Lib.hid hn'
    clear hn hn'
    subst he
    go_enter Tryd.func15, Tryd.ntmps15
    go_wp2
    go_loopw [5] (fun k wr => ∃ j : Nat, j ≤ n ∧ k = .int .i64 j ∧ Hid (l.take j = r.take j) ∧ Below w.heap.size w wr) (fun k _ => n - (intOf k).toNat)
    case atStart => exact ⟨0, by omega, rfl, rfl, Below.refl _ _⟩
    case round =>
      obtain ⟨j, hj, rfl, ht, hb⟩ := hrel
      have HB := Lib.hid hb
      clear hb
      by_cases hlt : j < n
      · obtain ⟨b, o, x, rfl, hbB, hx, c0, c1, c2, c3, c4⟩ := (HL.out.below HB.out).insAt hlt
        obtain ⟨b', o', y, rfl, hbB', hy, d0, d1, d2, d3, d4⟩ := (HR.out.below HB.out).insAt hlt
        have hcmp := neq_ins x y
        have HX := Lib.hid hx
        have HY := Lib.hid hy
        clear hx hy
        have hjl : j < l.length := by rw [HN.out]; exact hlt
        have hjr : j < r.length := by rw [HN'.out]; exact hlt
        have hgx : l[j] = x := by have e := HX.out; rw [List.getElem?_eq_getElem hjl] at e; injection e
        have hgy : r[j] = y := by have e := HY.out; rw [List.getElem?_eq_getElem hjr] at e; injection e
        have HGX := Lib.hid hgx
        have HGY := Lib.hid hgy
        clear hgx hgy
        cases hd : decide (x = y)
        · have E : Hid (decide (l = r) = false) := decide_eq_false fun e => by
            subst e
            exact (of_decide_eq_false hd) (HGX.out.symm.trans HGY.out)
          go_wp2
          go_quiet (fail)
          go_wp2
          go_ret
          exact ⟨ret_bool E.out.symm, below_drewN HB.out _⟩
        · have ht2 : Hid (l.take (j + 1) = r.take (j + 1)) := by
            show _ = _
            rw [List.take_succ_eq_append_getElem hjl, List.take_succ_eq_append_getElem hjr, ht.out, HGX.out, HGY.out, of_decide_eq_true hd]
          go_wp2
          go_quiet (fail)
          go_wp2
          go_roundw
          case rel => exact ⟨j + 1, by omega, by go_num, ht2, below_drewN HB.out _⟩
          case measure => simp [intOf]; omega
      · obtain rfl : j = n := by omega
        have E : Hid (decide (l = r) = true) := decide_eq_true (by
          have h := ht.out
          rw [List.take_of_length_le (by rw [HN.out]; omega), List.take_of_length_le (by rw [HN'.out]; omega)] at h
          exact h)
        go_wp2
        go_ret
        exact ⟨ret_bool E.out.symm, HB.out⟩
  · have E : Hid (decide (l = r) = false) := decide_eq_false fun e => by subst e; omega
    have h1 : ((n : Int) == (n' : Int)) = false := by rw [beq_eq_false_iff_ne]; omega
    have h2 : ((n : Int) != (n' : Int)) = true := by rw [bne_iff_ne]; omega
    clear hn hn'
    go_enter Tryd.func15, Tryd.ntmps15
    go_wp2
    go_ret
    exact ⟨ret_bool E.out.symm, Below.refl _ _⟩
end Go.Proofs.YthdlihiehfkceaaDoor

namespace Go.Proofs.YthdlihiehfkceaaDoor
open Go.RowKit
set_option linter.unusedVariables false

theorem fits_len {code : List Ins} (h : fitsP code = true) : code.length ≤ 100000 := by
  unfold fitsP at h
  simp only [Bool.and_eq_true, decide_eq_true_eq] at h
  omega
theorem text_size {code : List Ins} (h : fitsP code = true) (hok : ∀ i ∈ code, i.Ok) : (textP code).size ≤ 51400 := by
  obtain ⟨h1, h2, cnt, h3, h4, h5⟩ := fits_some h
  have hl := textGo_le cnt code 0 (by omega) (fun i hi => (hok i hi).imm)
  rw [h4]
  show (textGo cnt code 0).toArray.size ≤ _
  rw [List.size_toArray]
  omega
theorem asm_eq {s : ByteArray} {l : List Ins} {e : Int} (h : (asmP s).1 = l ∧ (asmP s).2.2 = e) : ∃ a, asmP s = (l, a, e) := ⟨(asmP s).2.1, by rw [← h.1, ← h.2]⟩
theorem same_is (l : List Ins) (A A' : Option Addr) (n c n' c' : Nat) (w : World) (hl : RdI w w.heap.size A n l) (hr : RdI w w.heap.size A' n' l) :
    Calls Tryd.prog 15 #[.slice A n c, .slice A' n' c'] w fun e w' => e = .returned (.bool true) ∧ Below w.heap.size w w' := by
  have h := same_any l l A A' n c n' c' w hl hr
  rw [decide_eq_true rfl] at h
  exact h

set_option maxRecDepth 100000 in
set_option maxHeartbeats 8000000 in
theorem back_walk (l : List Ins) (A : Option Addr) (n c : Nat) (text : ByteArray) (W : World) (htab : PowTab W) (rd : RdI W W.heap.size A n l) (hok : ∀ t ∈ l, t.Ok) (hnc : n ≤ c) (hts : text.size ≤ maxLen) :
    Calls Tryd.prog 4 #[.slice A n c, .string text] W fun e w' => e = .returned (.bool true) ∧ Below W.heap.size W w' := by
  have hlen := rd.insLen
  have HR := Lib.hid rd
  have HT := Lib.hid htab
  have HOk := Lib.hid hok
  have HLen := Lib.hid hlen
  clear rd htab hok hlen
  go_enter Tryd.func4, Tryd.ntmps4
  go_wp2_with fail
  refine (alive4_any _ HT.out).mono ?_
  rintro e w1 ⟨rfl, hb1⟩
  have HB1 := Lib.hid hb1
  have HR1 := Lib.hid ((HR.out.below hb1).more hb1.size)
  have HT1 := Lib.hid (HT.out.below hb1)
  clear hb1
  by_cases h40 : 40 < n
  · have g4 : (40 : Int) < (n : Int) := by omega
    clear h40
    go_wp2
    go_ret
    exact ⟨rfl, HB1.out⟩
  have g4 : ¬ (40 : Int) < (n : Int) := by omega
  by_cases h600 : 600 < text.size
  · have g5 : (600 : Int) < (text.size : Int) := by omega
    clear h40 h600
    go_wp2
    go_ret
    exact ⟨rfl, HB1.out⟩
  have g5 : ¬ (600 : Int) < (text.size : Int) := by omega
  have hs65 : text.size ≤ 65536 := by omega
  have hsmax : text.size ≤ maxLen := by unfold maxLen; omega
  have hn1 : n ≤ 100000 := by omega
  clear h40 h600
  have hft := rfits_any l A n c w1 HR1.out hn1 HOk.out
  cases hfi : fitsP l
  · rw [hfi] at hft
    have hte := text_any l A n c
    rw [fits_none hfi] at hte
    have HTe := Lib.hid hte
    clear hte
    go_wp2_with (first
      | (go_at_call 13
         with_reducible refine hft.mono ?_
         rintro e w2 ⟨rfl, hb2⟩
         have HB2 := Lib.hid (HB1.out.trans (hb2.mono HB1.out.size))
         have HR2 := Lib.hid ((HR1.out.below hb2).more hb2.size)
         have HT2 := Lib.hid (HT1.out.below hb2)
         clear hb2)
      | (go_at_call 11
         with_reducible refine (HTe.out w2 HR2.out hn1 HOk.out HT2.out).mono ?_
         rintro e w5 ⟨rfl, hb5⟩
         have HB5w := Lib.hid (HB2.out.trans (hb5.mono HB2.out.size))
         have HT5w := Lib.hid (HT2.out.below hb5)
         clear hb5))
    clear hft HTe
    obtain ⟨cd, oa, er, hA⟩ : ∃ cd oa er, asmP text = (cd, oa, er) := ⟨_, _, _, rfl⟩
    have HA := Lib.hid hA
    by_cases her : er = 0
    · subst her
      obtain ⟨hfd, hokd⟩ := asm_fits hs65 hA
      have HOd := Lib.hid hokd
      have HSz := Lib.hid (text_size hfd hokd)
      have hat := asm_text hfd hokd
      obtain ⟨a2, hA2⟩ := asm_eq hat
      have HA2 := Lib.hid hA2
      have hld : cd.length ≤ 100000 := fits_len hfd
      have HLd := Lib.hid hld
      clear hfd hokd hat hA2 hA hld
      go_wp2_with (first
        | (go_at_call 14
           with_reducible refine (asm_to HA.out w5 hsmax).mono ?_
           rintro e u1 ⟨A1, c1, rfl, hc1, hr1, _, hb1⟩
           have HR1 := Lib.hid hr1
           have HB1 := Lib.hid (HB5w.out.trans (hb1.mono HB5w.out.size))
           have HT1 := Lib.hid (HT5w.out.below hb1)
           clear hb1 hr1 hc1)
        | (go_at_call 11
           with_reducible refine (text_any cd A1 cd.length c1 u1 HR1.out HLd.out HOd.out HT1.out).mono ?_
           rintro e u2 ⟨rfl, hb2⟩
           have HB2 := Lib.hid (HB1.out.trans (hb2.mono HB1.out.size))
           have HR2 := Lib.hid ((HR1.out.below hb2).more hb2.size)
           have HT2 := Lib.hid (HT1.out.below hb2)
           clear hb2)
        | (go_at_call 14
           with_reducible refine (asm_to HA2.out u2 (Nat.le_trans HSz.out (by decide))).mono ?_
           rintro e u3 ⟨A3, c3, rfl, hc3, hr3, _, hb3⟩
           have HR3 := Lib.hid hr3
           have HB3 := Lib.hid (HB2.out.trans (hb3.mono HB2.out.size))
           have HR2' := Lib.hid ((HR2.out.below hb3).more hb3.size)
           have HT3 := Lib.hid (HT2.out.below hb3)
           clear hb3 hr3 hc3)
        | (go_at_call 15
           with_reducible refine (same_is cd A3 A1 cd.length c3 cd.length c1 u3 HR3.out HR2'.out).mono ?_
           rintro e u4 ⟨rfl, hb4⟩
           have HB4 := Lib.hid (HB3.out.trans (hb4.mono HB3.out.size))
           have HR4 := Lib.hid ((HR3.out.below hb4).more hb4.size)
           have HT4 := Lib.hid (HT3.out.below hb4)
           clear hb4)
        | (go_at_call 11
           with_reducible refine (text_any cd A3 cd.length c3 u4 HR4.out HLd.out HOd.out HT4.out).mono ?_
           rintro e u5 ⟨rfl, hb5⟩
           have HB5 := Lib.hid (HB4.out.trans (hb5.mono HB4.out.size))
           clear hb5))
      go_ret
      exact ⟨by simp, HB5.out⟩
    · obtain rfl : cd = [] := asm_bad hA her
      have hnb : (er != 0) = true := by simpa using her
      have hnb2 : ¬ er = 0 := her
      clear hA her
      go_wp2_with (
        go_at_call 14
        with_reducible refine (asm_to HA.out w5 hsmax).mono ?_
        rintro e u1 ⟨A1, c1, rfl, hc1, hr1, _, hb1⟩
        have HB1 := Lib.hid (HB5w.out.trans (hb1.mono HB5w.out.size))
        clear hb1 hr1 hc1)
      go_ret
      exact ⟨by simp, HB1.out⟩
  · rw [hfi] at hft
    obtain ⟨a0, hA0⟩ := asm_eq (asm_text hfi HOk.out)
    have HA0 := Lib.hid hA0
    have HSz0 := Lib.hid (text_size hfi HOk.out)
    clear hA0
    have hll : n = l.length := HLen.out.symm
    have HLL := Lib.hid hll
    clear hll
    go_wp2_with (first
      | (go_at_call 13
         with_reducible refine hft.mono ?_
         rintro e w2 ⟨rfl, hb2⟩
         have HB2 := Lib.hid (HB1.out.trans (hb2.mono HB1.out.size))
         have HR2 := Lib.hid ((HR1.out.below hb2).more hb2.size)
         have HT2 := Lib.hid (HT1.out.below hb2)
         clear hb2)
      | (go_at_call 11
         with_reducible refine (text_any l A n c w2 HR2.out hn1 HOk.out HT2.out).mono ?_
         rintro e w3 ⟨rfl, hb3⟩
         have HB3 := Lib.hid (HB2.out.trans (hb3.mono HB2.out.size))
         have HR3 := Lib.hid ((HR2.out.below hb3).more hb3.size)
         have HT3 := Lib.hid (HT2.out.below hb3)
         clear hb3)
      | (go_at_call 14
         with_reducible refine (asm_to HA0.out w3 (Nat.le_trans HSz0.out (by decide))).mono ?_
         rintro e w4 ⟨A4, c4, rfl, hc4, hr4, _, hb4⟩
         have HR4b := Lib.hid hr4
         have HB4 := Lib.hid (HB3.out.trans (hb4.mono HB3.out.size))
         have HR4 := Lib.hid ((HR3.out.below hb4).more hb4.size)
         have HT4 := Lib.hid (HT3.out.below hb4)
         clear hb4 hr4 hc4)
      | (go_at_call 15
         with_reducible refine (same_is l A4 A l.length c4 n c w4 HR4b.out HR4.out).mono ?_
         rintro e w5 ⟨rfl, hb5⟩
         have HB5w := Lib.hid (HB4.out.trans (hb5.mono HB4.out.size))
         have HT5w := Lib.hid (HT4.out.below hb5)
         clear hb5))
    clear hft
    obtain ⟨cd, oa, er, hA⟩ : ∃ cd oa er, asmP text = (cd, oa, er) := ⟨_, _, _, rfl⟩
    have HA := Lib.hid hA
    by_cases her : er = 0
    · subst her
      obtain ⟨hfd, hokd⟩ := asm_fits hs65 hA
      have HOd := Lib.hid hokd
      have HSz := Lib.hid (text_size hfd hokd)
      have hat := asm_text hfd hokd
      obtain ⟨a2, hA2⟩ := asm_eq hat
      have HA2 := Lib.hid hA2
      have hld : cd.length ≤ 100000 := fits_len hfd
      have HLd := Lib.hid hld
      clear hfd hokd hat hA2 hA hld
      go_wp2_with (first
        | (go_at_call 14
           with_reducible refine (asm_to HA.out w5 hsmax).mono ?_
           rintro e u1 ⟨A1, c1, rfl, hc1, hr1, _, hb1⟩
           have HR1 := Lib.hid hr1
           have HB1 := Lib.hid (HB5w.out.trans (hb1.mono HB5w.out.size))
           have HT1 := Lib.hid (HT5w.out.below hb1)
           clear hb1 hr1 hc1)
        | (go_at_call 11
           with_reducible refine (text_any cd A1 cd.length c1 u1 HR1.out HLd.out HOd.out HT1.out).mono ?_
           rintro e u2 ⟨rfl, hb2⟩
           have HB2 := Lib.hid (HB1.out.trans (hb2.mono HB1.out.size))
           have HR2 := Lib.hid ((HR1.out.below hb2).more hb2.size)
           have HT2 := Lib.hid (HT1.out.below hb2)
           clear hb2)
        | (go_at_call 14
           with_reducible refine (asm_to HA2.out u2 (Nat.le_trans HSz.out (by decide))).mono ?_
           rintro e u3 ⟨A3, c3, rfl, hc3, hr3, _, hb3⟩
           have HR3 := Lib.hid hr3
           have HB3 := Lib.hid (HB2.out.trans (hb3.mono HB2.out.size))
           have HR2' := Lib.hid ((HR2.out.below hb3).more hb3.size)
           have HT3 := Lib.hid (HT2.out.below hb3)
           clear hb3 hr3 hc3)
        | (go_at_call 15
           with_reducible refine (same_is cd A3 A1 cd.length c3 cd.length c1 u3 HR3.out HR2'.out).mono ?_
           rintro e u4 ⟨rfl, hb4⟩
           have HB4 := Lib.hid (HB3.out.trans (hb4.mono HB3.out.size))
           have HR4 := Lib.hid ((HR3.out.below hb4).more hb4.size)
           have HT4 := Lib.hid (HT3.out.below hb4)
           clear hb4)
        | (go_at_call 11
           with_reducible refine (text_any cd A3 cd.length c3 u4 HR4.out HLd.out HOd.out HT4.out).mono ?_
           rintro e u5 ⟨rfl, hb5⟩
           have HB5 := Lib.hid (HB4.out.trans (hb5.mono HB4.out.size))
           clear hb5))
      go_ret
      exact ⟨by simp, HB5.out⟩
    · obtain rfl : cd = [] := asm_bad hA her
      have hnb : (er != 0) = true := by simpa using her
      have hnb2 : ¬ er = 0 := her
      clear hA her
      go_wp2_with (
        go_at_call 14
        with_reducible refine (asm_to HA.out w5 hsmax).mono ?_
        rintro e u1 ⟨A1, c1, rfl, hc1, hr1, _, hb1⟩
        have HB1 := Lib.hid (HB5w.out.trans (hb1.mono HB5w.out.size))
        clear hb1 hr1 hc1)
      go_ret
      exact ⟨by simp, HB1.out⟩
end Go.Proofs.YthdlihiehfkceaaDoor
