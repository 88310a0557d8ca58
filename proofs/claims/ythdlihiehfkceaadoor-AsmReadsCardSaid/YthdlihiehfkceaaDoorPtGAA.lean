/-
  Texts of one proof, joined (wip/gen/pack.py): RdsP, RdsA.
-/
import Derived.Test.YthdlihiehfkceaaDoorPtBAB
import Derived.Test.YthdlihiehfkceaaDoorPtAH
import Derived.Test.YthdlihiehfkceaaDoorPtAB
namespace Go.Proofs.YthdlihiehfkceaaDoor
open Go.RowKit
set_option linter.unusedVariables false

/-- A class's word in a shape. -/
def clsW (x : Nat × ByteArray) : List UInt8 := if x.1 = 0 then [114] else if x.1 = 1 then [110] else if x.1 = 2 then [119] else x.2.data.toList
def allCls : List (Nat × ByteArray) := [(0, ⟨#[]⟩), (1, ⟨#[]⟩), (2, ⟨#[]⟩)] ++ keyRunes.map (fun c => (3, wordP c)) ++ signRunes.map (fun c : Nat => (4, Utf8.encode (c : Int)))
theorem cls_apart : ∀ x ∈ allCls, ∀ y ∈ allCls, clsW x = clsW y → x = y := by decide +kernel
theorem cls_nob : ∀ x ∈ allCls, ∀ b ∈ clsW x, b ≠ 32 := by decide +kernel
theorem cls_len : ∀ x ∈ allCls, (clsW x).length ≤ 5 := by decide +kernel
theorem mem_any {x : Nat × ByteArray} {l : List (Nat × ByteArray)} (h : (l.any fun y => decide (y = x)) = true) : x ∈ l := by
  obtain ⟨y, hy, he⟩ := List.any_eq_true.1 h
  rw [← of_decide_eq_true he]; exact hy
theorem clsF_all (op : Fin 22) (c : Nat) (hc : c ∈ formP (op.val : Nat)) : clsF c ∈ allCls := by
  have h : ∀ op : Fin 22, ∀ c ∈ formP (op.val : Nat), (allCls.any fun y => decide (y = clsF c)) = true := by decide +kernel
  exact mem_any (h op c hc)
theorem colon_all : ((4 : Nat), (⟨#[58]⟩ : ByteArray)) ∈ allCls := mem_any (by decide +kernel)
theorem all3 {s : ByteArray} (h : keyP s = true) : ((3 : Nat), s) ∈ allCls := by
  obtain ⟨c, hc, rfl⟩ := key_mem.1 h
  exact List.mem_append_left _ (List.mem_append_right _ (List.mem_map.2 ⟨c, hc, rfl⟩))
theorem all4 {c : Nat} (h : isSign c = true) {s : ByteArray} (hs : s = Utf8.encode (c : Int)) : ((4 : Nat), s) ∈ allCls := by
  obtain ⟨k, hk, hc⟩ := isSign_mem.1 h
  refine List.mem_append_right _ (List.mem_map.2 ⟨c, ?_, by rw [hs]⟩)
  rw [← hc, List.getD_eq_getElem?_getD, List.getElem?_eq_getElem (by exact hk)]
  exact List.getElem_mem _
theorem clsT_all {t : Tok} (hf : Form t) (h3 : t.kind ≠ 3) : clsT t ∈ allCls := by
  rcases hf with ⟨a, _⟩ | ⟨a, _⟩ | ⟨a, _, c, hc, ht⟩ | ⟨a, _⟩
  · have e : clsT t = if keyP t.text = true then (3, t.text) else if 0 ≤ regP t.text then (0, ⟨#[]⟩) else (2, ⟨#[]⟩) := by unfold clsT; rw [if_neg (by omega), if_neg (by omega), if_pos a]
    rw [e]
    split
    · rename_i hk; exact all3 hk
    · split
      · exact List.mem_append_left _ (List.mem_append_left _ (by simp))
      · exact List.mem_append_left _ (List.mem_append_left _ (by simp))
  · have e : clsT t = (1, ⟨#[]⟩) := by unfold clsT; rw [if_pos a]
    rw [e]; exact List.mem_append_left _ (List.mem_append_left _ (by simp))
  · have e : clsT t = (4, t.text) := by unfold clsT; rw [if_neg (by omega), if_pos a]
    rw [e]; exact all4 hc ht
  · exact absurd a h3
def shapeG (l : List (Nat × ByteArray)) : List UInt8 := l.flatMap fun x => clsW x ++ [32]
theorem split32 : ∀ (a b r r' : List UInt8), (∀ z ∈ a, z ≠ 32) → (∀ z ∈ b, z ≠ 32) → a ++ 32 :: r = b ++ 32 :: r' → a = b ∧ r = r'
  | [], [], r, r', _, _, h => by simp at h; exact ⟨rfl, h⟩
  | [], y :: b, r, r', _, hb, h => by
    simp only [List.nil_append, List.cons_append, List.cons.injEq] at h
    exact absurd h.1.symm (hb y (by simp))
  | x :: a, [], r, r', ha, _, h => by
    simp only [List.nil_append, List.cons_append, List.cons.injEq] at h
    exact absurd h.1 (ha x (by simp))
  | x :: a, y :: b, r, r', ha, hb, h => by
    simp only [List.cons_append, List.cons.injEq] at h
    obtain ⟨h1, h2⟩ := split32 a b r r' (fun z hz => ha z (by simp [hz])) (fun z hz => hb z (by simp [hz])) h.2
    exact ⟨by rw [h.1, h1], h2⟩
theorem shapeG_cons (x : Nat × ByteArray) (l : List (Nat × ByteArray)) : shapeG (x :: l) = clsW x ++ 32 :: shapeG l := by simp [shapeG]
theorem shape_inj : ∀ (l r : List (Nat × ByteArray)), (∀ x ∈ l, x ∈ allCls) → (∀ x ∈ r, x ∈ allCls) → shapeG l = shapeG r → l = r
  | [], [], _, _, _ => rfl
  | [], y :: r, _, _, h => by rw [shapeG_cons] at h; simp [shapeG] at h
  | x :: l, [], _, _, h => by rw [shapeG_cons] at h; simp [shapeG] at h
  | x :: l, y :: r, hl, hr, h => by
    rw [shapeG_cons, shapeG_cons] at h
    obtain ⟨h1, h2⟩ := split32 _ _ _ _ (cls_nob x (hl x (by simp))) (cls_nob y (hr y (by simp))) h
    rw [cls_apart x (hl x (by simp)) y (hr y (by simp)) h1, shape_inj l r (fun z hz => hl z (by simp [hz])) (fun z hz => hr z (by simp [hz])) h2]
/-- A line's shape. -/
def shapeP (l : List Tok) : ByteArray := ⟨(shapeG (l.map clsT)).toArray⟩
def kindStr (op : Nat) : ByteArray := ⟨(shapeG ((formP (op : Int)).map clsF)).toArray⟩
def kindGo (s : ByteArray) : Nat → Nat → Int
  | 0, _ => -1
  | f + 1, k => if kindStr k = s then (k : Int) else kindGo s f (k + 1)
def kindP (s : ByteArray) : Int := kindGo s 22 0
theorem shapes_eq {a b : List (Nat × ByteArray)} : ((⟨(shapeG a).toArray⟩ : ByteArray) = ⟨(shapeG b).toArray⟩) ↔ shapeG a = shapeG b := by
  constructor
  · intro h
    have := congrArg (fun x : ByteArray => x.data.toList) h
    simpa using this
  · intro h; rw [h]
/-- A line's tokens have forms, and none ends the line. -/
def LineOk (l : List Tok) : Prop := ∀ t ∈ l, Form t ∧ t.kind ≠ 3
theorem LineOk.all {l : List Tok} (h : LineOk l) : ∀ x ∈ l.map clsT, x ∈ allCls := by
  intro x hx
  obtain ⟨t, ht, rfl⟩ := List.mem_map.1 hx
  exact clsT_all (h t ht).1 (h t ht).2
theorem kind_is {l : List Tok} (hl : LineOk l) {op : Nat} (hop : op < 22) : kindStr op = shapeP l ↔ l.map clsT = (formP (op : Int)).map clsF := by
  unfold kindStr shapeP
  rw [shapes_eq]
  constructor
  · intro h
    refine (shape_inj _ _ ?_ hl.all h).symm
    intro x hx
    obtain ⟨c, hc, rfl⟩ := List.mem_map.1 hx
    exact clsF_all ⟨op, hop⟩ c hc
  · intro h; rw [h]
theorem kindGo_out {s : ByteArray} : ∀ {f k : Nat}, (kindGo s f k = -1 ∧ ∀ op, k ≤ op → op < k + f → kindStr op ≠ s) ∨ ∃ op : Nat, k ≤ op ∧ op < k + f ∧ kindStr op = s ∧ kindGo s f k = op
  | 0, k => .inl ⟨rfl, fun op h1 h2 => by omega⟩
  | f + 1, k => by
    rw [kindGo]
    by_cases h : kindStr k = s
    · rw [if_pos h]; exact .inr ⟨k, by omega, by omega, h, rfl⟩
    · rw [if_neg h]
      rcases kindGo_out (s := s) (f := f) (k := k + 1) with ⟨h1, h2⟩ | ⟨op, h1, h2, h3, h4⟩
      · refine .inl ⟨h1, fun op g1 g2 => ?_⟩
        by_cases e : op = k
        · subst e; exact h
        · exact h2 op (by omega) (by omega)
      · exact .inr ⟨op, by omega, by omega, h3, h4⟩
def colonS : ByteArray := ⟨#[119, 32, 58, 32]⟩
theorem colon_is {l : List Tok} (hl : LineOk l) : shapeP l = colonS ↔ l.map clsT = [(2, ⟨#[]⟩), (4, ⟨#[58]⟩)] := by
  have e : colonS = ⟨(shapeG [(2, ⟨#[]⟩), (4, ⟨#[58]⟩)]).toArray⟩ := by decide +kernel
  unfold shapeP
  rw [e, shapes_eq]
  constructor
  · intro h
    refine shape_inj _ _ hl.all ?_ h
    intro x hx
    simp only [List.mem_cons, List.not_mem_nil, or_false] at hx
    rcases hx with rfl | rfl
    · exact List.mem_append_left _ (List.mem_append_left _ (by simp))
    · exact colon_all
  · intro h; rw [h]
/-- The registers of a line, and its last number. -/
def regsL (l : List Tok) : List Int := l.filterMap fun t => if t.kind = 0 ∧ 0 ≤ regP t.text then some (regP t.text) else none
def numGoL : List Tok → Int → Int
  | [], m => m
  | t :: l, m => numGoL l (if t.kind = 1 then t.num else m)
def rotL (op : Int) (r : List Int) : List Int := if op = 10 ∨ op = 13 ∨ op = 14 then r.getLastD 0 :: r.dropLast else r
def lineL (op : Int) (l : List Tok) : Ins := ⟨op, (rotL op (regsL l)).getD 0 0, (rotL op (regsL l)).getD 1 0, (rotL op (regsL l)).getD 2 0, numGoL l 0⟩
theorem cls_num {t : Tok} (h : clsT t = (1, ⟨#[]⟩)) : t.kind = 1 := by
  have := (take_ok 105 t ⟨⟨0, 0, 0, 0, 0⟩, ⟨#[]⟩, 0⟩).2 (by rw [h]; rfl)
  exact of_decide_eq_true this
theorem cls_reg {t : Tok} (h : clsT t = (0, ⟨#[]⟩)) : t.kind = 0 ∧ 0 ≤ regP t.text := by
  have h2 := (take_ok 97 t ⟨⟨0, 0, 0, 0, 0⟩, ⟨#[]⟩, 0⟩).2 (by rw [h]; rfl)
  have h3 : 0 ≤ (if t.kind = 0 then regP t.text else -1) := of_decide_eq_true h2
  by_cases hk : t.kind = 0
  · rw [if_pos hk] at h3; exact ⟨hk, h3⟩
  · rw [if_neg hk] at h3; omega
theorem cls_lab {t : Tok} (h : clsT t = (2, ⟨#[]⟩)) : t.kind = 0 ∧ ¬ 0 ≤ regP t.text := by
  have h2 := (take_ok 108 t ⟨⟨0, 0, 0, 0, 0⟩, ⟨#[]⟩, 0⟩).2 (by rw [h]; rfl)
  have h3 : (decide (t.kind = 0) && freeP t.text) = true := h2
  simp only [Bool.and_eq_true, decide_eq_true_eq] at h3
  refine ⟨h3.1, ?_⟩
  have h4 := h3.2
  unfold freeP at h4
  simp only [Bool.and_eq_true, decide_eq_true_eq] at h4
  omega
theorem cls_key {t : Tok} {s : ByteArray} (h : clsT t = (3, s)) : t.kind = 0 ∧ ¬ 0 ≤ regP t.text := by
  unfold clsT at h
  split at h
  · injection h with h _; cases h
  · split at h
    · injection h with h _; cases h
    · split at h
      · rename_i hk
        split at h
        · rename_i hkey
          have := key_reg hkey
          exact ⟨hk, by omega⟩
        · split at h <;> (injection h with h _; cases h)
      · injection h with h _; cases h
theorem cls_sign {t : Tok} {s : ByteArray} (h : clsT t = (4, s)) : t.kind = 2 := by
  unfold clsT at h
  split at h
  · injection h with h _; cases h
  · split at h
    · assumption
    · split at h
      · split at h
        · injection h with h _; cases h
        · split at h <;> (injection h with h _; cases h)
      · injection h with h _; cases h
theorem len2 {a b : Nat × ByteArray} {l : List Tok} (h : l.map clsT = [a, b]) : ∃ t0 t1, l = [t0, t1] ∧ clsT t0 = a ∧ clsT t1 = b := by
  match l, h with
  | [t0, t1], h => simp at h; exact ⟨t0, t1, rfl, h.1, h.2⟩
theorem len3 {a b c : Nat × ByteArray} {l : List Tok} (h : l.map clsT = [a, b, c]) : ∃ t0 t1 t2, l = [t0, t1, t2] ∧ clsT t0 = a ∧ clsT t1 = b ∧ clsT t2 = c := by
  match l, h with
  | [t0, t1, t2], h => simp at h; exact ⟨t0, t1, t2, rfl, h.1, h.2.1, h.2.2⟩
theorem len4 {a b c d : Nat × ByteArray} {l : List Tok} (h : l.map clsT = [a, b, c, d]) : ∃ t0 t1 t2 t3, l = [t0, t1, t2, t3] ∧ clsT t0 = a ∧ clsT t1 = b ∧ clsT t2 = c ∧ clsT t3 = d := by
  match l, h with
  | [t0, t1, t2, t3], h => simp at h; exact ⟨t0, t1, t2, t3, rfl, h.1, h.2.1, h.2.2.1, h.2.2.2⟩
theorem len5 {a b c d e : Nat × ByteArray} {l : List Tok} (h : l.map clsT = [a, b, c, d, e]) : ∃ t0 t1 t2 t3 t4, l = [t0, t1, t2, t3, t4] ∧ clsT t0 = a ∧ clsT t1 = b ∧ clsT t2 = c ∧ clsT t3 = d ∧ clsT t4 = e := by
  match l, h with
  | [t0, t1, t2, t3, t4], h => simp at h; exact ⟨t0, t1, t2, t3, t4, rfl, h.1, h.2.1, h.2.2.1, h.2.2.2.1, h.2.2.2.2⟩
theorem len7 {a b c d e f g : Nat × ByteArray} {l : List Tok} (h : l.map clsT = [a, b, c, d, e, f, g]) : ∃ t0 t1 t2 t3 t4 t5 t6, l = [t0, t1, t2, t3, t4, t5, t6] ∧ clsT t0 = a ∧ clsT t1 = b ∧ clsT t2 = c ∧ clsT t3 = d ∧ clsT t4 = e ∧ clsT t5 = f ∧ clsT t6 = g := by
  match l, h with
  | [t0, t1, t2, t3, t4, t5, t6], h => simp at h; exact ⟨t0, t1, t2, t3, t4, t5, t6, rfl, h.1, h.2.1, h.2.2.1, h.2.2.2.1, h.2.2.2.2.1, h.2.2.2.2.2.1, h.2.2.2.2.2.2⟩
/-- The text of a line's last token. -/
def finT (l : List Tok) : ByteArray := (l.getLast?.map Tok.text).getD ⟨#[]⟩
theorem line_0 {l : List Tok} (h : l.map clsT = (formP ((0 : Nat) : Int)).map clsF) : (takes (formP ((0 : Nat) : Int)) l (ord0 ((0 : Nat) : Int) l)).i = lineL ((0 : Nat) : Int) l ∧ (goesP ((0 : Nat) : Int) = true → (takes (formP ((0 : Nat) : Int)) l (ord0 ((0 : Nat) : Int) l)).name = finT l) := by
  rw [show formP ((0 : Nat) : Int) = [97, 8592, 105] from rfl] at h ⊢
  simp only [List.map_cons, List.map_nil] at h
  obtain ⟨t0, t1, t2, rfl, h0, h1, h2⟩ := len3 h
  obtain ⟨k0, r0⟩ := cls_reg (t := t0) h0
  have k1 := cls_sign (t := t1) (s := Utf8.encode ((8592 : Nat) : Int)) h1
  have k2 := cls_num (t := t2) h2
  clear h h0 h1 h2
  simp [takes, takeP, wordP, ord0, lineL, regsL, rotL, numGoL, goesP, finT, k0, r0, k1, k2]
theorem line_1 {l : List Tok} (h : l.map clsT = (formP ((1 : Nat) : Int)).map clsF) : (takes (formP ((1 : Nat) : Int)) l (ord0 ((1 : Nat) : Int) l)).i = lineL ((1 : Nat) : Int) l ∧ (goesP ((1 : Nat) : Int) = true → (takes (formP ((1 : Nat) : Int)) l (ord0 ((1 : Nat) : Int) l)).name = finT l) := by
  rw [show formP ((1 : Nat) : Int) = [97, 8592, 98] from rfl] at h ⊢
  simp only [List.map_cons, List.map_nil] at h
  obtain ⟨t0, t1, t2, rfl, h0, h1, h2⟩ := len3 h
  obtain ⟨k0, r0⟩ := cls_reg (t := t0) h0
  have k1 := cls_sign (t := t1) (s := Utf8.encode ((8592 : Nat) : Int)) h1
  obtain ⟨k2, r2⟩ := cls_reg (t := t2) h2
  clear h h0 h1 h2
  simp [takes, takeP, wordP, ord0, lineL, regsL, rotL, numGoL, goesP, finT, k0, r0, k1, k2, r2]
theorem line_2 {l : List Tok} (h : l.map clsT = (formP ((2 : Nat) : Int)).map clsF) : (takes (formP ((2 : Nat) : Int)) l (ord0 ((2 : Nat) : Int) l)).i = lineL ((2 : Nat) : Int) l ∧ (goesP ((2 : Nat) : Int) = true → (takes (formP ((2 : Nat) : Int)) l (ord0 ((2 : Nat) : Int) l)).name = finT l) := by
  rw [show formP ((2 : Nat) : Int) = [97, 8592, 98, 43, 99] from rfl] at h ⊢
  simp only [List.map_cons, List.map_nil] at h
  obtain ⟨t0, t1, t2, t3, t4, rfl, h0, h1, h2, h3, h4⟩ := len5 h
  obtain ⟨k0, r0⟩ := cls_reg (t := t0) h0
  have k1 := cls_sign (t := t1) (s := Utf8.encode ((8592 : Nat) : Int)) h1
  obtain ⟨k2, r2⟩ := cls_reg (t := t2) h2
  have k3 := cls_sign (t := t3) (s := Utf8.encode ((43 : Nat) : Int)) h3
  obtain ⟨k4, r4⟩ := cls_reg (t := t4) h4
  clear h h0 h1 h2 h3 h4
  simp [takes, takeP, wordP, ord0, lineL, regsL, rotL, numGoL, goesP, finT, k0, r0, k1, k2, r2, k3, k4, r4]
theorem line_3 {l : List Tok} (h : l.map clsT = (formP ((3 : Nat) : Int)).map clsF) : (takes (formP ((3 : Nat) : Int)) l (ord0 ((3 : Nat) : Int) l)).i = lineL ((3 : Nat) : Int) l ∧ (goesP ((3 : Nat) : Int) = true → (takes (formP ((3 : Nat) : Int)) l (ord0 ((3 : Nat) : Int) l)).name = finT l) := by
  rw [show formP ((3 : Nat) : Int) = [97, 8592, 98, 45, 99] from rfl] at h ⊢
  simp only [List.map_cons, List.map_nil] at h
  obtain ⟨t0, t1, t2, t3, t4, rfl, h0, h1, h2, h3, h4⟩ := len5 h
  obtain ⟨k0, r0⟩ := cls_reg (t := t0) h0
  have k1 := cls_sign (t := t1) (s := Utf8.encode ((8592 : Nat) : Int)) h1
  obtain ⟨k2, r2⟩ := cls_reg (t := t2) h2
  have k3 := cls_sign (t := t3) (s := Utf8.encode ((45 : Nat) : Int)) h3
  obtain ⟨k4, r4⟩ := cls_reg (t := t4) h4
  clear h h0 h1 h2 h3 h4
  simp [takes, takeP, wordP, ord0, lineL, regsL, rotL, numGoL, goesP, finT, k0, r0, k1, k2, r2, k3, k4, r4]
theorem line_4 {l : List Tok} (h : l.map clsT = (formP ((4 : Nat) : Int)).map clsF) : (takes (formP ((4 : Nat) : Int)) l (ord0 ((4 : Nat) : Int) l)).i = lineL ((4 : Nat) : Int) l ∧ (goesP ((4 : Nat) : Int) = true → (takes (formP ((4 : Nat) : Int)) l (ord0 ((4 : Nat) : Int) l)).name = finT l) := by
  rw [show formP ((4 : Nat) : Int) = [97, 8592, 98, 215, 99] from rfl] at h ⊢
  simp only [List.map_cons, List.map_nil] at h
  obtain ⟨t0, t1, t2, t3, t4, rfl, h0, h1, h2, h3, h4⟩ := len5 h
  obtain ⟨k0, r0⟩ := cls_reg (t := t0) h0
  have k1 := cls_sign (t := t1) (s := Utf8.encode ((8592 : Nat) : Int)) h1
  obtain ⟨k2, r2⟩ := cls_reg (t := t2) h2
  have k3 := cls_sign (t := t3) (s := Utf8.encode ((215 : Nat) : Int)) h3
  obtain ⟨k4, r4⟩ := cls_reg (t := t4) h4
  clear h h0 h1 h2 h3 h4
  simp [takes, takeP, wordP, ord0, lineL, regsL, rotL, numGoL, goesP, finT, k0, r0, k1, k2, r2, k3, k4, r4]
theorem line_5 {l : List Tok} (h : l.map clsT = (formP ((5 : Nat) : Int)).map clsF) : (takes (formP ((5 : Nat) : Int)) l (ord0 ((5 : Nat) : Int) l)).i = lineL ((5 : Nat) : Int) l ∧ (goesP ((5 : Nat) : Int) = true → (takes (formP ((5 : Nat) : Int)) l (ord0 ((5 : Nat) : Int) l)).name = finT l) := by
  rw [show formP ((5 : Nat) : Int) = [97, 8592, 98, 37, 99] from rfl] at h ⊢
  simp only [List.map_cons, List.map_nil] at h
  obtain ⟨t0, t1, t2, t3, t4, rfl, h0, h1, h2, h3, h4⟩ := len5 h
  obtain ⟨k0, r0⟩ := cls_reg (t := t0) h0
  have k1 := cls_sign (t := t1) (s := Utf8.encode ((8592 : Nat) : Int)) h1
  obtain ⟨k2, r2⟩ := cls_reg (t := t2) h2
  have k3 := cls_sign (t := t3) (s := Utf8.encode ((37 : Nat) : Int)) h3
  obtain ⟨k4, r4⟩ := cls_reg (t := t4) h4
  clear h h0 h1 h2 h3 h4
  simp [takes, takeP, wordP, ord0, lineL, regsL, rotL, numGoL, goesP, finT, k0, r0, k1, k2, r2, k3, k4, r4]
theorem line_6 {l : List Tok} (h : l.map clsT = (formP ((6 : Nat) : Int)).map clsF) : (takes (formP ((6 : Nat) : Int)) l (ord0 ((6 : Nat) : Int) l)).i = lineL ((6 : Nat) : Int) l ∧ (goesP ((6 : Nat) : Int) = true → (takes (formP ((6 : Nat) : Int)) l (ord0 ((6 : Nat) : Int) l)).name = finT l) := by
  rw [show formP ((6 : Nat) : Int) = [97, 8592, 98, 61, 99] from rfl] at h ⊢
  simp only [List.map_cons, List.map_nil] at h
  obtain ⟨t0, t1, t2, t3, t4, rfl, h0, h1, h2, h3, h4⟩ := len5 h
  obtain ⟨k0, r0⟩ := cls_reg (t := t0) h0
  have k1 := cls_sign (t := t1) (s := Utf8.encode ((8592 : Nat) : Int)) h1
  obtain ⟨k2, r2⟩ := cls_reg (t := t2) h2
  have k3 := cls_sign (t := t3) (s := Utf8.encode ((61 : Nat) : Int)) h3
  obtain ⟨k4, r4⟩ := cls_reg (t := t4) h4
  clear h h0 h1 h2 h3 h4
  simp [takes, takeP, wordP, ord0, lineL, regsL, rotL, numGoL, goesP, finT, k0, r0, k1, k2, r2, k3, k4, r4]
theorem line_7 {l : List Tok} (h : l.map clsT = (formP ((7 : Nat) : Int)).map clsF) : (takes (formP ((7 : Nat) : Int)) l (ord0 ((7 : Nat) : Int) l)).i = lineL ((7 : Nat) : Int) l ∧ (goesP ((7 : Nat) : Int) = true → (takes (formP ((7 : Nat) : Int)) l (ord0 ((7 : Nat) : Int) l)).name = finT l) := by
  rw [show formP ((7 : Nat) : Int) = [97, 8592, 98, 60, 99] from rfl] at h ⊢
  simp only [List.map_cons, List.map_nil] at h
  obtain ⟨t0, t1, t2, t3, t4, rfl, h0, h1, h2, h3, h4⟩ := len5 h
  obtain ⟨k0, r0⟩ := cls_reg (t := t0) h0
  have k1 := cls_sign (t := t1) (s := Utf8.encode ((8592 : Nat) : Int)) h1
  obtain ⟨k2, r2⟩ := cls_reg (t := t2) h2
  have k3 := cls_sign (t := t3) (s := Utf8.encode ((60 : Nat) : Int)) h3
  obtain ⟨k4, r4⟩ := cls_reg (t := t4) h4
  clear h h0 h1 h2 h3 h4
  simp [takes, takeP, wordP, ord0, lineL, regsL, rotL, numGoL, goesP, finT, k0, r0, k1, k2, r2, k3, k4, r4]
theorem line_8 {l : List Tok} (h : l.map clsT = (formP ((8 : Nat) : Int)).map clsF) : (takes (formP ((8 : Nat) : Int)) l (ord0 ((8 : Nat) : Int) l)).i = lineL ((8 : Nat) : Int) l ∧ (goesP ((8 : Nat) : Int) = true → (takes (formP ((8 : Nat) : Int)) l (ord0 ((8 : Nat) : Int) l)).name = finT l) := by
  rw [show formP ((8 : Nat) : Int) = [97, 8592, 65, 105] from rfl] at h ⊢
  simp only [List.map_cons, List.map_nil] at h
  obtain ⟨t0, t1, t2, t3, rfl, h0, h1, h2, h3⟩ := len4 h
  obtain ⟨k0, r0⟩ := cls_reg (t := t0) h0
  have k1 := cls_sign (t := t1) (s := Utf8.encode ((8592 : Nat) : Int)) h1
  obtain ⟨k2, r2⟩ := cls_key (t := t2) (s := wordP 65) h2
  have k3 := cls_num (t := t3) h3
  clear h h0 h1 h2 h3
  simp [takes, takeP, wordP, ord0, lineL, regsL, rotL, numGoL, goesP, finT, k0, r0, k1, k2, r2, k3]
theorem line_9 {l : List Tok} (h : l.map clsT = (formP ((9 : Nat) : Int)).map clsF) : (takes (formP ((9 : Nat) : Int)) l (ord0 ((9 : Nat) : Int) l)).i = lineL ((9 : Nat) : Int) l ∧ (goesP ((9 : Nat) : Int) = true → (takes (formP ((9 : Nat) : Int)) l (ord0 ((9 : Nat) : Int) l)).name = finT l) := by
  rw [show formP ((9 : Nat) : Int) = [97, 8592, 82, 98] from rfl] at h ⊢
  simp only [List.map_cons, List.map_nil] at h
  obtain ⟨t0, t1, t2, t3, rfl, h0, h1, h2, h3⟩ := len4 h
  obtain ⟨k0, r0⟩ := cls_reg (t := t0) h0
  have k1 := cls_sign (t := t1) (s := Utf8.encode ((8592 : Nat) : Int)) h1
  obtain ⟨k2, r2⟩ := cls_key (t := t2) (s := wordP 82) h2
  obtain ⟨k3, r3⟩ := cls_reg (t := t3) h3
  clear h h0 h1 h2 h3
  simp [takes, takeP, wordP, ord0, lineL, regsL, rotL, numGoL, goesP, finT, k0, r0, k1, k2, r2, k3, r3]
theorem line_10 {l : List Tok} (h : l.map clsT = (formP ((10 : Nat) : Int)).map clsF) : (takes (formP ((10 : Nat) : Int)) l (ord0 ((10 : Nat) : Int) l)).i = lineL ((10 : Nat) : Int) l ∧ (goesP ((10 : Nat) : Int) = true → (takes (formP ((10 : Nat) : Int)) l (ord0 ((10 : Nat) : Int) l)).name = finT l) := by
  rw [show formP ((10 : Nat) : Int) = [82, 98, 8592, 97] from rfl] at h ⊢
  simp only [List.map_cons, List.map_nil] at h
  obtain ⟨t0, t1, t2, t3, rfl, h0, h1, h2, h3⟩ := len4 h
  obtain ⟨k0, r0⟩ := cls_key (t := t0) (s := wordP 82) h0
  obtain ⟨k1, r1⟩ := cls_reg (t := t1) h1
  have k2 := cls_sign (t := t2) (s := Utf8.encode ((8592 : Nat) : Int)) h2
  obtain ⟨k3, r3⟩ := cls_reg (t := t3) h3
  clear h h0 h1 h2 h3
  simp [takes, takeP, wordP, ord0, lineL, regsL, rotL, numGoL, goesP, finT, k0, r0, k1, r1, k2, k3, r3]
theorem line_11 {l : List Tok} (h : l.map clsT = (formP ((11 : Nat) : Int)).map clsF) : (takes (formP ((11 : Nat) : Int)) l (ord0 ((11 : Nat) : Int) l)).i = lineL ((11 : Nat) : Int) l ∧ (goesP ((11 : Nat) : Int) = true → (takes (formP ((11 : Nat) : Int)) l (ord0 ((11 : Nat) : Int) l)).name = finT l) := by
  rw [show formP ((11 : Nat) : Int) = [97, 8592, 91, 98, 43, 105, 93] from rfl] at h ⊢
  simp only [List.map_cons, List.map_nil] at h
  obtain ⟨t0, t1, t2, t3, t4, t5, t6, rfl, h0, h1, h2, h3, h4, h5, h6⟩ := len7 h
  obtain ⟨k0, r0⟩ := cls_reg (t := t0) h0
  have k1 := cls_sign (t := t1) (s := Utf8.encode ((8592 : Nat) : Int)) h1
  have k2 := cls_sign (t := t2) (s := Utf8.encode ((91 : Nat) : Int)) h2
  obtain ⟨k3, r3⟩ := cls_reg (t := t3) h3
  have k4 := cls_sign (t := t4) (s := Utf8.encode ((43 : Nat) : Int)) h4
  have k5 := cls_num (t := t5) h5
  have k6 := cls_sign (t := t6) (s := Utf8.encode ((93 : Nat) : Int)) h6
  clear h h0 h1 h2 h3 h4 h5 h6
  simp [takes, takeP, wordP, ord0, lineL, regsL, rotL, numGoL, goesP, finT, k0, r0, k1, k2, k3, r3, k4, k5, k6]
theorem line_12 {l : List Tok} (h : l.map clsT = (formP ((12 : Nat) : Int)).map clsF) : (takes (formP ((12 : Nat) : Int)) l (ord0 ((12 : Nat) : Int) l)).i = lineL ((12 : Nat) : Int) l ∧ (goesP ((12 : Nat) : Int) = true → (takes (formP ((12 : Nat) : Int)) l (ord0 ((12 : Nat) : Int) l)).name = finT l) := by
  rw [show formP ((12 : Nat) : Int) = [97, 8592, 91, 98, 43, 99, 93] from rfl] at h ⊢
  simp only [List.map_cons, List.map_nil] at h
  obtain ⟨t0, t1, t2, t3, t4, t5, t6, rfl, h0, h1, h2, h3, h4, h5, h6⟩ := len7 h
  obtain ⟨k0, r0⟩ := cls_reg (t := t0) h0
  have k1 := cls_sign (t := t1) (s := Utf8.encode ((8592 : Nat) : Int)) h1
  have k2 := cls_sign (t := t2) (s := Utf8.encode ((91 : Nat) : Int)) h2
  obtain ⟨k3, r3⟩ := cls_reg (t := t3) h3
  have k4 := cls_sign (t := t4) (s := Utf8.encode ((43 : Nat) : Int)) h4
  obtain ⟨k5, r5⟩ := cls_reg (t := t5) h5
  have k6 := cls_sign (t := t6) (s := Utf8.encode ((93 : Nat) : Int)) h6
  clear h h0 h1 h2 h3 h4 h5 h6
  simp [takes, takeP, wordP, ord0, lineL, regsL, rotL, numGoL, goesP, finT, k0, r0, k1, k2, k3, r3, k4, k5, r5, k6]
theorem line_13 {l : List Tok} (h : l.map clsT = (formP ((13 : Nat) : Int)).map clsF) : (takes (formP ((13 : Nat) : Int)) l (ord0 ((13 : Nat) : Int) l)).i = lineL ((13 : Nat) : Int) l ∧ (goesP ((13 : Nat) : Int) = true → (takes (formP ((13 : Nat) : Int)) l (ord0 ((13 : Nat) : Int) l)).name = finT l) := by
  rw [show formP ((13 : Nat) : Int) = [91, 98, 43, 105, 93, 8592, 97] from rfl] at h ⊢
  simp only [List.map_cons, List.map_nil] at h
  obtain ⟨t0, t1, t2, t3, t4, t5, t6, rfl, h0, h1, h2, h3, h4, h5, h6⟩ := len7 h
  have k0 := cls_sign (t := t0) (s := Utf8.encode ((91 : Nat) : Int)) h0
  obtain ⟨k1, r1⟩ := cls_reg (t := t1) h1
  have k2 := cls_sign (t := t2) (s := Utf8.encode ((43 : Nat) : Int)) h2
  have k3 := cls_num (t := t3) h3
  have k4 := cls_sign (t := t4) (s := Utf8.encode ((93 : Nat) : Int)) h4
  have k5 := cls_sign (t := t5) (s := Utf8.encode ((8592 : Nat) : Int)) h5
  obtain ⟨k6, r6⟩ := cls_reg (t := t6) h6
  clear h h0 h1 h2 h3 h4 h5 h6
  simp [takes, takeP, wordP, ord0, lineL, regsL, rotL, numGoL, goesP, finT, k0, k1, r1, k2, k3, k4, k5, k6, r6]
theorem line_14 {l : List Tok} (h : l.map clsT = (formP ((14 : Nat) : Int)).map clsF) : (takes (formP ((14 : Nat) : Int)) l (ord0 ((14 : Nat) : Int) l)).i = lineL ((14 : Nat) : Int) l ∧ (goesP ((14 : Nat) : Int) = true → (takes (formP ((14 : Nat) : Int)) l (ord0 ((14 : Nat) : Int) l)).name = finT l) := by
  rw [show formP ((14 : Nat) : Int) = [91, 98, 43, 99, 93, 8592, 97] from rfl] at h ⊢
  simp only [List.map_cons, List.map_nil] at h
  obtain ⟨t0, t1, t2, t3, t4, t5, t6, rfl, h0, h1, h2, h3, h4, h5, h6⟩ := len7 h
  have k0 := cls_sign (t := t0) (s := Utf8.encode ((91 : Nat) : Int)) h0
  obtain ⟨k1, r1⟩ := cls_reg (t := t1) h1
  have k2 := cls_sign (t := t2) (s := Utf8.encode ((43 : Nat) : Int)) h2
  obtain ⟨k3, r3⟩ := cls_reg (t := t3) h3
  have k4 := cls_sign (t := t4) (s := Utf8.encode ((93 : Nat) : Int)) h4
  have k5 := cls_sign (t := t5) (s := Utf8.encode ((8592 : Nat) : Int)) h5
  obtain ⟨k6, r6⟩ := cls_reg (t := t6) h6
  clear h h0 h1 h2 h3 h4 h5 h6
  simp [takes, takeP, wordP, ord0, lineL, regsL, rotL, numGoL, goesP, finT, k0, k1, r1, k2, k3, r3, k4, k5, k6, r6]
theorem line_15 {l : List Tok} (h : l.map clsT = (formP ((15 : Nat) : Int)).map clsF) : (takes (formP ((15 : Nat) : Int)) l (ord0 ((15 : Nat) : Int) l)).i = lineL ((15 : Nat) : Int) l ∧ (goesP ((15 : Nat) : Int) = true → (takes (formP ((15 : Nat) : Int)) l (ord0 ((15 : Nat) : Int) l)).name = finT l) := by
  rw [show formP ((15 : Nat) : Int) = [97, 8592, 78] from rfl] at h ⊢
  simp only [List.map_cons, List.map_nil] at h
  obtain ⟨t0, t1, t2, rfl, h0, h1, h2⟩ := len3 h
  obtain ⟨k0, r0⟩ := cls_reg (t := t0) h0
  have k1 := cls_sign (t := t1) (s := Utf8.encode ((8592 : Nat) : Int)) h1
  obtain ⟨k2, r2⟩ := cls_key (t := t2) (s := wordP 78) h2
  clear h h0 h1 h2
  simp [takes, takeP, wordP, ord0, lineL, regsL, rotL, numGoL, goesP, finT, k0, r0, k1, k2, r2]
theorem line_16 {l : List Tok} (h : l.map clsT = (formP ((16 : Nat) : Int)).map clsF) : (takes (formP ((16 : Nat) : Int)) l (ord0 ((16 : Nat) : Int) l)).i = lineL ((16 : Nat) : Int) l ∧ (goesP ((16 : Nat) : Int) = true → (takes (formP ((16 : Nat) : Int)) l (ord0 ((16 : Nat) : Int) l)).name = finT l) := by
  rw [show formP ((16 : Nat) : Int) = [70, 97] from rfl] at h ⊢
  simp only [List.map_cons, List.map_nil] at h
  obtain ⟨t0, t1, rfl, h0, h1⟩ := len2 h
  obtain ⟨k0, r0⟩ := cls_key (t := t0) (s := wordP 70) h0
  obtain ⟨k1, r1⟩ := cls_reg (t := t1) h1
  clear h h0 h1
  simp [takes, takeP, wordP, ord0, lineL, regsL, rotL, numGoL, goesP, finT, k0, r0, k1, r1]
theorem line_17 {l : List Tok} (h : l.map clsT = (formP ((17 : Nat) : Int)).map clsF) : (takes (formP ((17 : Nat) : Int)) l (ord0 ((17 : Nat) : Int) l)).i = lineL ((17 : Nat) : Int) l ∧ (goesP ((17 : Nat) : Int) = true → (takes (formP ((17 : Nat) : Int)) l (ord0 ((17 : Nat) : Int) l)).name = finT l) := by
  rw [show formP ((17 : Nat) : Int) = [71, 108] from rfl] at h ⊢
  simp only [List.map_cons, List.map_nil] at h
  obtain ⟨t0, t1, rfl, h0, h1⟩ := len2 h
  obtain ⟨k0, r0⟩ := cls_key (t := t0) (s := wordP 71) h0
  obtain ⟨k1, r1⟩ := cls_lab (t := t1) h1
  clear h h0 h1
  simp [takes, takeP, wordP, ord0, lineL, regsL, rotL, numGoL, goesP, finT, k0, r0, k1, r1]
theorem line_18 {l : List Tok} (h : l.map clsT = (formP ((18 : Nat) : Int)).map clsF) : (takes (formP ((18 : Nat) : Int)) l (ord0 ((18 : Nat) : Int) l)).i = lineL ((18 : Nat) : Int) l ∧ (goesP ((18 : Nat) : Int) = true → (takes (formP ((18 : Nat) : Int)) l (ord0 ((18 : Nat) : Int) l)).name = finT l) := by
  rw [show formP ((18 : Nat) : Int) = [90, 97, 108] from rfl] at h ⊢
  simp only [List.map_cons, List.map_nil] at h
  obtain ⟨t0, t1, t2, rfl, h0, h1, h2⟩ := len3 h
  obtain ⟨k0, r0⟩ := cls_key (t := t0) (s := wordP 90) h0
  obtain ⟨k1, r1⟩ := cls_reg (t := t1) h1
  obtain ⟨k2, r2⟩ := cls_lab (t := t2) h2
  clear h h0 h1 h2
  simp [takes, takeP, wordP, ord0, lineL, regsL, rotL, numGoL, goesP, finT, k0, r0, k1, r1, k2, r2]
theorem line_19 {l : List Tok} (h : l.map clsT = (formP ((19 : Nat) : Int)).map clsF) : (takes (formP ((19 : Nat) : Int)) l (ord0 ((19 : Nat) : Int) l)).i = lineL ((19 : Nat) : Int) l ∧ (goesP ((19 : Nat) : Int) = true → (takes (formP ((19 : Nat) : Int)) l (ord0 ((19 : Nat) : Int) l)).name = finT l) := by
  rw [show formP ((19 : Nat) : Int) = [66, 97, 108] from rfl] at h ⊢
  simp only [List.map_cons, List.map_nil] at h
  obtain ⟨t0, t1, t2, rfl, h0, h1, h2⟩ := len3 h
  obtain ⟨k0, r0⟩ := cls_key (t := t0) (s := wordP 66) h0
  obtain ⟨k1, r1⟩ := cls_reg (t := t1) h1
  obtain ⟨k2, r2⟩ := cls_lab (t := t2) h2
  clear h h0 h1 h2
  simp [takes, takeP, wordP, ord0, lineL, regsL, rotL, numGoL, goesP, finT, k0, r0, k1, r1, k2, r2]
theorem line_20 {l : List Tok} (h : l.map clsT = (formP ((20 : Nat) : Int)).map clsF) : (takes (formP ((20 : Nat) : Int)) l (ord0 ((20 : Nat) : Int) l)).i = lineL ((20 : Nat) : Int) l ∧ (goesP ((20 : Nat) : Int) = true → (takes (formP ((20 : Nat) : Int)) l (ord0 ((20 : Nat) : Int) l)).name = finT l) := by
  rw [show formP ((20 : Nat) : Int) = [84, 97] from rfl] at h ⊢
  simp only [List.map_cons, List.map_nil] at h
  obtain ⟨t0, t1, rfl, h0, h1⟩ := len2 h
  obtain ⟨k0, r0⟩ := cls_key (t := t0) (s := wordP 84) h0
  obtain ⟨k1, r1⟩ := cls_reg (t := t1) h1
  clear h h0 h1
  simp [takes, takeP, wordP, ord0, lineL, regsL, rotL, numGoL, goesP, finT, k0, r0, k1, r1]
theorem line_21 {l : List Tok} (h : l.map clsT = (formP ((21 : Nat) : Int)).map clsF) : (takes (formP ((21 : Nat) : Int)) l (ord0 ((21 : Nat) : Int) l)).i = lineL ((21 : Nat) : Int) l ∧ (goesP ((21 : Nat) : Int) = true → (takes (formP ((21 : Nat) : Int)) l (ord0 ((21 : Nat) : Int) l)).name = finT l) := by
  rw [show formP ((21 : Nat) : Int) = [88, 105] from rfl] at h ⊢
  simp only [List.map_cons, List.map_nil] at h
  obtain ⟨t0, t1, rfl, h0, h1⟩ := len2 h
  obtain ⟨k0, r0⟩ := cls_key (t := t0) (s := wordP 88) h0
  have k1 := cls_num (t := t1) h1
  clear h h0 h1
  simp [takes, takeP, wordP, ord0, lineL, regsL, rotL, numGoL, goesP, finT, k0, r0, k1]
theorem takes_line_ref {op : Nat} (hop : op < 22) {l : List Tok} (h : l.map clsT = (formP (op : Int)).map clsF) : (takes (formP (op : Int)) l (ord0 (op : Int) l)).i = lineL (op : Int) l ∧ (goesP (op : Int) = true → (takes (formP (op : Int)) l (ord0 (op : Int) l)).name = finT l) := by
  obtain rfl | rfl | rfl | rfl | rfl | rfl | rfl | rfl | rfl | rfl | rfl | rfl | rfl | rfl | rfl | rfl | rfl | rfl | rfl | rfl | rfl | rfl : op = 0 ∨ op = 1 ∨ op = 2 ∨ op = 3 ∨ op = 4 ∨ op = 5 ∨ op = 6 ∨ op = 7 ∨ op = 8 ∨ op = 9 ∨ op = 10 ∨ op = 11 ∨ op = 12 ∨ op = 13 ∨ op = 14 ∨ op = 15 ∨ op = 16 ∨ op = 17 ∨ op = 18 ∨ op = 19 ∨ op = 20 ∨ op = 21 := by omega
  · exact line_0 h
  · exact line_1 h
  · exact line_2 h
  · exact line_3 h
  · exact line_4 h
  · exact line_5 h
  · exact line_6 h
  · exact line_7 h
  · exact line_8 h
  · exact line_9 h
  · exact line_10 h
  · exact line_11 h
  · exact line_12 h
  · exact line_13 h
  · exact line_14 h
  · exact line_15 h
  · exact line_16 h
  · exact line_17 h
  · exact line_18 h
  · exact line_19 h
  · exact line_20 h
  · exact line_21 h
end Go.Proofs.YthdlihiehfkceaaDoor

namespace Go.Proofs.YthdlihiehfkceaaDoor
open Go.RowKit
set_option linter.unusedVariables false

set_option maxRecDepth 100000 in
set_option maxHeartbeats 4000000 in
theorem rregister_any (s : ByteArray) (w : World) : Calls Tryd.prog 62 #[.string s] w fun e w' => e = .returned (.int .i64 (regP s)) ∧ Below w.heap.size w w' := by
  go_enter Tryd.func62, Tryd.ntmps62
  go_wp2
  go_loopw [3] (fun i wr => ∃ k : Nat, (k ≤ 16 ∧ i = .int .i64 k) ∧ Hid (regGo s (16 - k) k = regP s) ∧ Hid (Below w.heap.size w wr)) (fun i _ => 16 - (intOf i).toNat)
  case atStart => exact ⟨0, ⟨by omega, rfl⟩, rfl, Below.refl _ _⟩
  case round =>
    obtain ⟨k, ⟨hk, rfl⟩, HG, HB⟩ := hrel
    by_cases hlt : k < 16
    · have hlti : (k : Int) < 16 := by omega
      have hg := HG.out
      rw [show 16 - k = (16 - (k + 1)) + 1 by omega, regGo] at hg
      have hbq := bytes_eq s (regName k)
      have hdl : (Lib.decDigits k).length ≤ 20 := by rw [Lib.decDigits_length]; exact Lib.nDigits_le20 k (by omega)
      obtain ⟨DD, hDD⟩ : ∃ DD : ByteArray, ⟨(Lib.decDigits k).toArray⟩ = DD := ⟨_, rfl⟩
      have hDs : DD.size ≤ 20 := by rw [← hDD]; show (Lib.decDigits k).toArray.size ≤ 20; rw [List.size_toArray]; exact hdl
      have hreg := regName_is hlt
      rw [hDD] at hreg
      rw [← hreg] at hbq
      have HDD := Lib.hid hDD
      clear hdl hDD
      by_cases he : s = regName k
      · rw [if_pos he] at hg
        rw [← hreg] at he
        rw [decide_eq_true he] at hbq
        have HE := Lib.hid hg
        clear hg he hreg
        go_wp2_with (go_at_call 28; refine (rdigits_any k (by omega) _).mono ?_; rintro e w2 ⟨rfl, hb2⟩; rw [HDD.out]; have HB2 := Lib.hid (HB.out.trans (hb2.mono HB.out.size)); clear hb2)
        go_ret
        exact ⟨ret_int HE.out, HB2.out⟩
      · rw [if_neg he] at hg
        rw [← hreg] at he
        rw [decide_eq_false he] at hbq
        have HE := Lib.hid hg
        clear hg he hreg
        go_wp2_with (go_at_call 28; refine (rdigits_any k (by omega) _).mono ?_; rintro e w2 ⟨rfl, hb2⟩; rw [HDD.out]; have HB2 := Lib.hid (HB.out.trans (hb2.mono HB.out.size)); clear hb2)
        go_roundw
        case rel => exact ⟨k + 1, ⟨by omega, by go_num⟩, HE, HB2.out⟩
        case measure => simp [intOf]; omega
    · obtain rfl : k = 16 := by omega
      have HE : Hid (regP s = -1) := HG.out.symm
      go_wp2
      go_ret
      exact ⟨ret_int HE.out.symm, HB.out⟩

set_option maxRecDepth 100000 in
set_option maxHeartbeats 4000000 in
theorem rkey_any (s : ByteArray) (w : World) : Calls Tryd.prog 61 #[.string s] w fun e w' => e = .returned (.bool (keyP s)) ∧ w' = w := by
  by_cases h0 : s = ⟨#[97, 114, 103]⟩
  · subst h0
    have HK : Hid (keyP ⟨#[97, 114, 103]⟩ = true) := by show _ = _; decide +kernel
    go_enter Tryd.func61, Tryd.ntmps61
    go_wp2
    go_ret
    exact ⟨ret_bool HK.out.symm, rfl⟩
  have e0 := bytes_eq s ⟨#[97, 114, 103]⟩
  rw [decide_eq_false h0] at e0
  have f0 : (s.toList == [97, 114, 103]) = false := by rw [← e0]; congr 1; rw [ByteArray.toList_eq]
  by_cases h1 : s = ⟨#[114, 111, 111, 116]⟩
  · subst h1
    have HK : Hid (keyP ⟨#[114, 111, 111, 116]⟩ = true) := by show _ = _; decide +kernel
    go_enter Tryd.func61, Tryd.ntmps61
    go_wp2
    go_ret
    exact ⟨ret_bool HK.out.symm, rfl⟩
  have e1 := bytes_eq s ⟨#[114, 111, 111, 116]⟩
  rw [decide_eq_false h1] at e1
  have f1 : (s.toList == [114, 111, 111, 116]) = false := by rw [← e1]; congr 1; rw [ByteArray.toList_eq]
  by_cases h2 : s = ⟨#[110, 101, 119]⟩
  · subst h2
    have HK : Hid (keyP ⟨#[110, 101, 119]⟩ = true) := by show _ = _; decide +kernel
    go_enter Tryd.func61, Tryd.ntmps61
    go_wp2
    go_ret
    exact ⟨ret_bool HK.out.symm, rfl⟩
  have e2 := bytes_eq s ⟨#[110, 101, 119]⟩
  rw [decide_eq_false h2] at e2
  have f2 : (s.toList == [110, 101, 119]) = false := by rw [← e2]; congr 1; rw [ByteArray.toList_eq]
  by_cases h3 : s = ⟨#[102, 114, 101, 101]⟩
  · subst h3
    have HK : Hid (keyP ⟨#[102, 114, 101, 101]⟩ = true) := by show _ = _; decide +kernel
    go_enter Tryd.func61, Tryd.ntmps61
    go_wp2
    go_ret
    exact ⟨ret_bool HK.out.symm, rfl⟩
  have e3 := bytes_eq s ⟨#[102, 114, 101, 101]⟩
  rw [decide_eq_false h3] at e3
  have f3 : (s.toList == [102, 114, 101, 101]) = false := by rw [← e3]; congr 1; rw [ByteArray.toList_eq]
  by_cases h4 : s = ⟨#[103, 111]⟩
  · subst h4
    have HK : Hid (keyP ⟨#[103, 111]⟩ = true) := by show _ = _; decide +kernel
    go_enter Tryd.func61, Tryd.ntmps61
    go_wp2
    go_ret
    exact ⟨ret_bool HK.out.symm, rfl⟩
  have e4 := bytes_eq s ⟨#[103, 111]⟩
  rw [decide_eq_false h4] at e4
  have f4 : (s.toList == [103, 111]) = false := by rw [← e4]; congr 1; rw [ByteArray.toList_eq]
  by_cases h5 : s = ⟨#[122, 101, 114, 111]⟩
  · subst h5
    have HK : Hid (keyP ⟨#[122, 101, 114, 111]⟩ = true) := by show _ = _; decide +kernel
    go_enter Tryd.func61, Tryd.ntmps61
    go_wp2
    go_ret
    exact ⟨ret_bool HK.out.symm, rfl⟩
  have e5 := bytes_eq s ⟨#[122, 101, 114, 111]⟩
  rw [decide_eq_false h5] at e5
  have f5 : (s.toList == [122, 101, 114, 111]) = false := by rw [← e5]; congr 1; rw [ByteArray.toList_eq]
  by_cases h6 : s = ⟨#[98, 97, 99, 107]⟩
  · subst h6
    have HK : Hid (keyP ⟨#[98, 97, 99, 107]⟩ = true) := by show _ = _; decide +kernel
    go_enter Tryd.func61, Tryd.ntmps61
    go_wp2
    go_ret
    exact ⟨ret_bool HK.out.symm, rfl⟩
  have e6 := bytes_eq s ⟨#[98, 97, 99, 107]⟩
  rw [decide_eq_false h6] at e6
  have f6 : (s.toList == [98, 97, 99, 107]) = false := by rw [← e6]; congr 1; rw [ByteArray.toList_eq]
  by_cases h7 : s = ⟨#[114, 101, 116]⟩
  · subst h7
    have HK : Hid (keyP ⟨#[114, 101, 116]⟩ = true) := by show _ = _; decide +kernel
    go_enter Tryd.func61, Tryd.ntmps61
    go_wp2
    go_ret
    exact ⟨ret_bool HK.out.symm, rfl⟩
  have e7 := bytes_eq s ⟨#[114, 101, 116]⟩
  rw [decide_eq_false h7] at e7
  have f7 : (s.toList == [114, 101, 116]) = false := by rw [← e7]; congr 1; rw [ByteArray.toList_eq]
  by_cases h8 : s = ⟨#[97, 98, 111, 114, 116]⟩
  · subst h8
    have HK : Hid (keyP ⟨#[97, 98, 111, 114, 116]⟩ = true) := by show _ = _; decide +kernel
    go_enter Tryd.func61, Tryd.ntmps61
    go_wp2
    go_ret
    exact ⟨ret_bool HK.out.symm, rfl⟩
  have e8 := bytes_eq s ⟨#[97, 98, 111, 114, 116]⟩
  rw [decide_eq_false h8] at e8
  have f8 : (s.toList == [97, 98, 111, 114, 116]) = false := by rw [← e8]; congr 1; rw [ByteArray.toList_eq]
  have HK : Hid (keyP s = false) := by
    show _ = _
    cases hk : keyP s with
    | false => rfl
    | true =>
      obtain ⟨c, hc, he⟩ := key_mem.1 hk
      simp only [keyRunes, List.mem_cons, List.not_mem_nil, or_false] at hc
      rcases hc with rfl | rfl | rfl | rfl | rfl | rfl | rfl | rfl | rfl
      · exact absurd he.symm h0
      · exact absurd he.symm h1
      · exact absurd he.symm h2
      · exact absurd he.symm h3
      · exact absurd he.symm h4
      · exact absurd he.symm h5
      · exact absurd he.symm h6
      · exact absurd he.symm h7
      · exact absurd he.symm h8
  clear h0 h1 h2 h3 h4 h5 h6 h7 h8
  go_enter Tryd.func61, Tryd.ntmps61
  go_wp2
  go_ret
  exact ⟨ret_bool HK.out.symm, rfl⟩

def kindLits : List ByteArray := [⟨#[114, 32, 226, 134, 144, 32, 110, 32]⟩, ⟨#[114, 32, 226, 134, 144, 32, 114, 32]⟩, ⟨#[114, 32, 226, 134, 144, 32, 114, 32, 43, 32, 114, 32]⟩, ⟨#[114, 32, 226, 134, 144, 32, 114, 32, 45, 32, 114, 32]⟩, ⟨#[114, 32, 226, 134, 144, 32, 114, 32, 195, 151, 32, 114, 32]⟩, ⟨#[114, 32, 226, 134, 144, 32, 114, 32, 37, 32, 114, 32]⟩, ⟨#[114, 32, 226, 134, 144, 32, 114, 32, 61, 32, 114, 32]⟩, ⟨#[114, 32, 226, 134, 144, 32, 114, 32, 60, 32, 114, 32]⟩, ⟨#[114, 32, 226, 134, 144, 32, 97, 114, 103, 32, 110, 32]⟩, ⟨#[114, 32, 226, 134, 144, 32, 114, 111, 111, 116, 32, 114, 32]⟩, ⟨#[114, 111, 111, 116, 32, 114, 32, 226, 134, 144, 32, 114, 32]⟩, ⟨#[114, 32, 226, 134, 144, 32, 91, 32, 114, 32, 43, 32, 110, 32, 93, 32]⟩, ⟨#[114, 32, 226, 134, 144, 32, 91, 32, 114, 32, 43, 32, 114, 32, 93, 32]⟩, ⟨#[91, 32, 114, 32, 43, 32, 110, 32, 93, 32, 226, 134, 144, 32, 114, 32]⟩, ⟨#[91, 32, 114, 32, 43, 32, 114, 32, 93, 32, 226, 134, 144, 32, 114, 32]⟩, ⟨#[114, 32, 226, 134, 144, 32, 110, 101, 119, 32]⟩, ⟨#[102, 114, 101, 101, 32, 114, 32]⟩, ⟨#[103, 111, 32, 119, 32]⟩, ⟨#[122, 101, 114, 111, 32, 114, 32, 119, 32]⟩, ⟨#[98, 97, 99, 107, 32, 114, 32, 119, 32]⟩, ⟨#[114, 101, 116, 32, 114, 32]⟩, ⟨#[97, 98, 111, 114, 116, 32, 110, 32]⟩]
theorem kind_lits : ∀ j : Fin 22, kindLits.getD j.val ⟨#[]⟩ = kindStr j.val := by decide +kernel
set_option maxRecDepth 100000 in
set_option maxHeartbeats 8000000 in
theorem rkind_any (s : ByteArray) (w : World) : Calls Tryd.prog 40 #[.string s] w fun e w' => e = .returned (.int .i64 (kindP s)) ∧ Below w.heap.size w w' := by
  have HB0 : Hid (Below w.heap.size w (w.alloc (.cells #[.string ⟨#[114, 32, 226, 134, 144, 32, 110, 32]⟩, .string ⟨#[114, 32, 226, 134, 144, 32, 114, 32]⟩, .string ⟨#[114, 32, 226, 134, 144, 32, 114, 32, 43, 32, 114, 32]⟩, .string ⟨#[114, 32, 226, 134, 144, 32, 114, 32, 45, 32, 114, 32]⟩, .string ⟨#[114, 32, 226, 134, 144, 32, 114, 32, 195, 151, 32, 114, 32]⟩, .string ⟨#[114, 32, 226, 134, 144, 32, 114, 32, 37, 32, 114, 32]⟩, .string ⟨#[114, 32, 226, 134, 144, 32, 114, 32, 61, 32, 114, 32]⟩, .string ⟨#[114, 32, 226, 134, 144, 32, 114, 32, 60, 32, 114, 32]⟩, .string ⟨#[114, 32, 226, 134, 144, 32, 97, 114, 103, 32, 110, 32]⟩, .string ⟨#[114, 32, 226, 134, 144, 32, 114, 111, 111, 116, 32, 114, 32]⟩, .string ⟨#[114, 111, 111, 116, 32, 114, 32, 226, 134, 144, 32, 114, 32]⟩, .string ⟨#[114, 32, 226, 134, 144, 32, 91, 32, 114, 32, 43, 32, 110, 32, 93, 32]⟩, .string ⟨#[114, 32, 226, 134, 144, 32, 91, 32, 114, 32, 43, 32, 114, 32, 93, 32]⟩, .string ⟨#[91, 32, 114, 32, 43, 32, 110, 32, 93, 32, 226, 134, 144, 32, 114, 32]⟩, .string ⟨#[91, 32, 114, 32, 43, 32, 114, 32, 93, 32, 226, 134, 144, 32, 114, 32]⟩, .string ⟨#[114, 32, 226, 134, 144, 32, 110, 101, 119, 32]⟩, .string ⟨#[102, 114, 101, 101, 32, 114, 32]⟩, .string ⟨#[103, 111, 32, 119, 32]⟩, .string ⟨#[122, 101, 114, 111, 32, 114, 32, 119, 32]⟩, .string ⟨#[98, 97, 99, 107, 32, 114, 32, 119, 32]⟩, .string ⟨#[114, 101, 116, 32, 114, 32]⟩, .string ⟨#[97, 98, 111, 114, 116, 32, 110, 32]⟩] 9))) := (Below.refl _ _).alloc (Nat.le_refl _) _
  have HC0 : Hid (∀ j, j < 22 → (w.alloc (.cells #[.string ⟨#[114, 32, 226, 134, 144, 32, 110, 32]⟩, .string ⟨#[114, 32, 226, 134, 144, 32, 114, 32]⟩, .string ⟨#[114, 32, 226, 134, 144, 32, 114, 32, 43, 32, 114, 32]⟩, .string ⟨#[114, 32, 226, 134, 144, 32, 114, 32, 45, 32, 114, 32]⟩, .string ⟨#[114, 32, 226, 134, 144, 32, 114, 32, 195, 151, 32, 114, 32]⟩, .string ⟨#[114, 32, 226, 134, 144, 32, 114, 32, 37, 32, 114, 32]⟩, .string ⟨#[114, 32, 226, 134, 144, 32, 114, 32, 61, 32, 114, 32]⟩, .string ⟨#[114, 32, 226, 134, 144, 32, 114, 32, 60, 32, 114, 32]⟩, .string ⟨#[114, 32, 226, 134, 144, 32, 97, 114, 103, 32, 110, 32]⟩, .string ⟨#[114, 32, 226, 134, 144, 32, 114, 111, 111, 116, 32, 114, 32]⟩, .string ⟨#[114, 111, 111, 116, 32, 114, 32, 226, 134, 144, 32, 114, 32]⟩, .string ⟨#[114, 32, 226, 134, 144, 32, 91, 32, 114, 32, 43, 32, 110, 32, 93, 32]⟩, .string ⟨#[114, 32, 226, 134, 144, 32, 91, 32, 114, 32, 43, 32, 114, 32, 93, 32]⟩, .string ⟨#[91, 32, 114, 32, 43, 32, 110, 32, 93, 32, 226, 134, 144, 32, 114, 32]⟩, .string ⟨#[91, 32, 114, 32, 43, 32, 114, 32, 93, 32, 226, 134, 144, 32, 114, 32]⟩, .string ⟨#[114, 32, 226, 134, 144, 32, 110, 101, 119, 32]⟩, .string ⟨#[102, 114, 101, 101, 32, 114, 32]⟩, .string ⟨#[103, 111, 32, 119, 32]⟩, .string ⟨#[122, 101, 114, 111, 32, 114, 32, 119, 32]⟩, .string ⟨#[98, 97, 99, 107, 32, 114, 32, 119, 32]⟩, .string ⟨#[114, 101, 116, 32, 114, 32]⟩, .string ⟨#[97, 98, 111, 114, 116, 32, 110, 32]⟩] 9)).cell? ⟨w.heap.size, j, none⟩ = some (.string (kindStr j))) := by
    have hb : Bk (w.alloc (.cells #[.string ⟨#[114, 32, 226, 134, 144, 32, 110, 32]⟩, .string ⟨#[114, 32, 226, 134, 144, 32, 114, 32]⟩, .string ⟨#[114, 32, 226, 134, 144, 32, 114, 32, 43, 32, 114, 32]⟩, .string ⟨#[114, 32, 226, 134, 144, 32, 114, 32, 45, 32, 114, 32]⟩, .string ⟨#[114, 32, 226, 134, 144, 32, 114, 32, 195, 151, 32, 114, 32]⟩, .string ⟨#[114, 32, 226, 134, 144, 32, 114, 32, 37, 32, 114, 32]⟩, .string ⟨#[114, 32, 226, 134, 144, 32, 114, 32, 61, 32, 114, 32]⟩, .string ⟨#[114, 32, 226, 134, 144, 32, 114, 32, 60, 32, 114, 32]⟩, .string ⟨#[114, 32, 226, 134, 144, 32, 97, 114, 103, 32, 110, 32]⟩, .string ⟨#[114, 32, 226, 134, 144, 32, 114, 111, 111, 116, 32, 114, 32]⟩, .string ⟨#[114, 111, 111, 116, 32, 114, 32, 226, 134, 144, 32, 114, 32]⟩, .string ⟨#[114, 32, 226, 134, 144, 32, 91, 32, 114, 32, 43, 32, 110, 32, 93, 32]⟩, .string ⟨#[114, 32, 226, 134, 144, 32, 91, 32, 114, 32, 43, 32, 114, 32, 93, 32]⟩, .string ⟨#[91, 32, 114, 32, 43, 32, 110, 32, 93, 32, 226, 134, 144, 32, 114, 32]⟩, .string ⟨#[91, 32, 114, 32, 43, 32, 114, 32, 93, 32, 226, 134, 144, 32, 114, 32]⟩, .string ⟨#[114, 32, 226, 134, 144, 32, 110, 101, 119, 32]⟩, .string ⟨#[102, 114, 101, 101, 32, 114, 32]⟩, .string ⟨#[103, 111, 32, 119, 32]⟩, .string ⟨#[122, 101, 114, 111, 32, 114, 32, 119, 32]⟩, .string ⟨#[98, 97, 99, 107, 32, 114, 32, 119, 32]⟩, .string ⟨#[114, 101, 116, 32, 114, 32]⟩, .string ⟨#[97, 98, 111, 114, 116, 32, 110, 32]⟩] 9)) w.heap.size 9 #[.string ⟨#[114, 32, 226, 134, 144, 32, 110, 32]⟩, .string ⟨#[114, 32, 226, 134, 144, 32, 114, 32]⟩, .string ⟨#[114, 32, 226, 134, 144, 32, 114, 32, 43, 32, 114, 32]⟩, .string ⟨#[114, 32, 226, 134, 144, 32, 114, 32, 45, 32, 114, 32]⟩, .string ⟨#[114, 32, 226, 134, 144, 32, 114, 32, 195, 151, 32, 114, 32]⟩, .string ⟨#[114, 32, 226, 134, 144, 32, 114, 32, 37, 32, 114, 32]⟩, .string ⟨#[114, 32, 226, 134, 144, 32, 114, 32, 61, 32, 114, 32]⟩, .string ⟨#[114, 32, 226, 134, 144, 32, 114, 32, 60, 32, 114, 32]⟩, .string ⟨#[114, 32, 226, 134, 144, 32, 97, 114, 103, 32, 110, 32]⟩, .string ⟨#[114, 32, 226, 134, 144, 32, 114, 111, 111, 116, 32, 114, 32]⟩, .string ⟨#[114, 111, 111, 116, 32, 114, 32, 226, 134, 144, 32, 114, 32]⟩, .string ⟨#[114, 32, 226, 134, 144, 32, 91, 32, 114, 32, 43, 32, 110, 32, 93, 32]⟩, .string ⟨#[114, 32, 226, 134, 144, 32, 91, 32, 114, 32, 43, 32, 114, 32, 93, 32]⟩, .string ⟨#[91, 32, 114, 32, 43, 32, 110, 32, 93, 32, 226, 134, 144, 32, 114, 32]⟩, .string ⟨#[91, 32, 114, 32, 43, 32, 114, 32, 93, 32, 226, 134, 144, 32, 114, 32]⟩, .string ⟨#[114, 32, 226, 134, 144, 32, 110, 101, 119, 32]⟩, .string ⟨#[102, 114, 101, 101, 32, 114, 32]⟩, .string ⟨#[103, 111, 32, 119, 32]⟩, .string ⟨#[122, 101, 114, 111, 32, 114, 32, 119, 32]⟩, .string ⟨#[98, 97, 99, 107, 32, 114, 32, 119, 32]⟩, .string ⟨#[114, 101, 116, 32, 114, 32]⟩, .string ⟨#[97, 98, 111, 114, 116, 32, 110, 32]⟩] := Bk.new _ _ _
    intro j hj
    have hk := kind_lits ⟨j, hj⟩
    simp only at hk
    rw [← hk]
    clear hk
    obtain rfl | rfl | rfl | rfl | rfl | rfl | rfl | rfl | rfl | rfl | rfl | rfl | rfl | rfl | rfl | rfl | rfl | rfl | rfl | rfl | rfl | rfl : j = 0 ∨ j = 1 ∨ j = 2 ∨ j = 3 ∨ j = 4 ∨ j = 5 ∨ j = 6 ∨ j = 7 ∨ j = 8 ∨ j = 9 ∨ j = 10 ∨ j = 11 ∨ j = 12 ∨ j = 13 ∨ j = 14 ∨ j = 15 ∨ j = 16 ∨ j = 17 ∨ j = 18 ∨ j = 19 ∨ j = 20 ∨ j = 21 := by omega
    · exact hb.cell 0
    · exact hb.cell 1
    · exact hb.cell 2
    · exact hb.cell 3
    · exact hb.cell 4
    · exact hb.cell 5
    · exact hb.cell 6
    · exact hb.cell 7
    · exact hb.cell 8
    · exact hb.cell 9
    · exact hb.cell 10
    · exact hb.cell 11
    · exact hb.cell 12
    · exact hb.cell 13
    · exact hb.cell 14
    · exact hb.cell 15
    · exact hb.cell 16
    · exact hb.cell 17
    · exact hb.cell 18
    · exact hb.cell 19
    · exact hb.cell 20
    · exact hb.cell 21
  go_enter Tryd.func40, Tryd.ntmps40
  go_upto_region 2 with fail
  obtain ⟨V, hV⟩ : ∃ V, w.alloc (.cells #[.string ⟨#[114, 32, 226, 134, 144, 32, 110, 32]⟩, .string ⟨#[114, 32, 226, 134, 144, 32, 114, 32]⟩, .string ⟨#[114, 32, 226, 134, 144, 32, 114, 32, 43, 32, 114, 32]⟩, .string ⟨#[114, 32, 226, 134, 144, 32, 114, 32, 45, 32, 114, 32]⟩, .string ⟨#[114, 32, 226, 134, 144, 32, 114, 32, 195, 151, 32, 114, 32]⟩, .string ⟨#[114, 32, 226, 134, 144, 32, 114, 32, 37, 32, 114, 32]⟩, .string ⟨#[114, 32, 226, 134, 144, 32, 114, 32, 61, 32, 114, 32]⟩, .string ⟨#[114, 32, 226, 134, 144, 32, 114, 32, 60, 32, 114, 32]⟩, .string ⟨#[114, 32, 226, 134, 144, 32, 97, 114, 103, 32, 110, 32]⟩, .string ⟨#[114, 32, 226, 134, 144, 32, 114, 111, 111, 116, 32, 114, 32]⟩, .string ⟨#[114, 111, 111, 116, 32, 114, 32, 226, 134, 144, 32, 114, 32]⟩, .string ⟨#[114, 32, 226, 134, 144, 32, 91, 32, 114, 32, 43, 32, 110, 32, 93, 32]⟩, .string ⟨#[114, 32, 226, 134, 144, 32, 91, 32, 114, 32, 43, 32, 114, 32, 93, 32]⟩, .string ⟨#[91, 32, 114, 32, 43, 32, 110, 32, 93, 32, 226, 134, 144, 32, 114, 32]⟩, .string ⟨#[91, 32, 114, 32, 43, 32, 114, 32, 93, 32, 226, 134, 144, 32, 114, 32]⟩, .string ⟨#[114, 32, 226, 134, 144, 32, 110, 101, 119, 32]⟩, .string ⟨#[102, 114, 101, 101, 32, 114, 32]⟩, .string ⟨#[103, 111, 32, 119, 32]⟩, .string ⟨#[122, 101, 114, 111, 32, 114, 32, 119, 32]⟩, .string ⟨#[98, 97, 99, 107, 32, 114, 32, 119, 32]⟩, .string ⟨#[114, 101, 116, 32, 114, 32]⟩, .string ⟨#[97, 98, 111, 114, 116, 32, 110, 32]⟩] 9) = V := ⟨_, rfl⟩
  rw [hV] at HB0 HC0 ⊢
  clear hV
  go_wp2
  go_loopw [4] (fun i wr => ∃ k : Nat, (k ≤ 22 ∧ i = .int .i64 k) ∧ Hid (kindGo s (22 - k) k = kindP s) ∧ wr = V) (fun i _ => 22 - (intOf i).toNat)
  case atStart => exact ⟨0, ⟨by omega, rfl⟩, rfl, rfl⟩
  case round =>
    obtain ⟨k, ⟨hk, rfl⟩, HG, rfl⟩ := hrel
    by_cases hlt : k < 22
    · have hlti : (k : Int) < 22 := by omega
      have hg := HG.out
      rw [show 22 - k = (22 - (k + 1)) + 1 by omega, kindGo] at hg
      have hc := HC0.out k hlt
      have hbq := bytes_eq (kindStr k) s
      by_cases he : kindStr k = s
      · rw [if_pos he] at hg
        rw [decide_eq_true he] at hbq
        have HE := Lib.hid hg
        clear hg he
        generalize kindStr k = KS at hc hbq
        go_wp2
        go_ret
        exact ⟨ret_int HE.out, HB0.out⟩
      · rw [if_neg he] at hg
        rw [decide_eq_false he] at hbq
        have HE := Lib.hid hg
        clear hg he
        generalize kindStr k = KS at hc hbq
        go_wp2
        go_roundw
        case rel => exact ⟨k + 1, ⟨by omega, by go_num⟩, HE, trivial⟩
        case measure => simp [intOf]; omega
    · obtain rfl : k = 22 := by omega
      have HE : Hid (kindP s = -1) := HG.out.symm
      go_wp2
      go_ret
      exact ⟨ret_int HE.out.symm, HB0.out⟩

def labCells (L : List (ByteArray × Nat)) : List Value := L.flatMap fun x => [.string x.1, .int .i64 (x.2 : Nat)]
theorem labCells_len (L : List (ByteArray × Nat)) : (labCells L).length = L.length * 2 := by
  induction L with
  | nil => rfl
  | cons x L ih => rw [labCells, List.flatMap_cons, List.length_append, ← labCells, ih]; simp; omega
theorem labCells_at : ∀ {L : List (ByteArray × Nat)} {k : Nat} {x : ByteArray × Nat}, L[k]? = some x → (labCells L)[k * 2]? = some (.string x.1) ∧ (labCells L)[k * 2 + 1]? = some (.int .i64 (x.2 : Nat))
  | [], k, x, h => by simp at h
  | y :: L, 0, x, h => by
    simp at h; subst h
    exact ⟨rfl, rfl⟩
  | y :: L, k + 1, x, h => by
    obtain ⟨h1, h2⟩ := labCells_at (L := L) (k := k) (by simpa using h)
    have e : labCells (y :: L) = [.string y.1, .int .i64 (y.2 : Nat)] ++ labCells L := rfl
    rw [e, List.getElem?_append_right (by simp; omega), List.getElem?_append_right (by simp; omega)]
    refine ⟨?_, ?_⟩
    · rw [← h1]; congr 1; simp; omega
    · rw [← h2]; congr 1; simp; omega
def findGoL (s : ByteArray) : List (ByteArray × Nat) → Int
  | [] => -1
  | x :: L => if x.1 = s then (x.2 : Int) else findGoL s L
set_option maxRecDepth 100000 in
set_option maxHeartbeats 4000000 in
theorem rfind_any (L : List (ByteArray × Nat)) (s : ByteArray) (A : Option Addr) (n c : Nat) (w : World) (hr : Rd w w.heap.size 2 A n (labCells L)) :
    Calls Tryd.prog 41 #[.slice A n c, .string s] w fun e w' => e = .returned (.int .i64 (findGoL s L)) ∧ w' = w := by
  have hn := hr.le
  have hlen : L.length = n := by have := hr.len; rw [labCells_len] at this; omega
  have HR := Lib.hid hr
  have HLen := Lib.hid hlen
  unfold maxLen at hn
  clear hr hlen
  go_enter Tryd.func41, Tryd.ntmps41
  go_wp2
  go_loopw [5] (fun i wr => ∃ k : Nat, (k ≤ n ∧ i = .int .i64 k) ∧ Hid (findGoL s (L.drop k) = findGoL s L) ∧ wr = w) (fun i _ => n - (intOf i).toNat)
  case atStart => exact ⟨0, ⟨by omega, rfl⟩, rfl, rfl⟩
  case round =>
    obtain ⟨k, ⟨hk, rfl⟩, HG, rfl⟩ := hrel
    by_cases hlt : k < n
    · have hlti : (k : Int) < (n : Int) := by omega
      have hkl : k < L.length := by rw [HLen.out]; exact hlt
      obtain ⟨⟨nm, to_⟩, hx⟩ : ∃ x, L[k]? = some x := ⟨_, List.getElem?_eq_getElem hkl⟩
      have hdr : L.drop k = (nm, to_) :: L.drop (k + 1) := by
        rw [List.drop_eq_getElem_cons hkl]; rw [List.getElem?_eq_getElem hkl] at hx; injection hx with hx; rw [hx]
      obtain ⟨b, o, rfl, hb, hc⟩ := HR.out.at_ (show 0 < n by omega)
      obtain ⟨x1, x2⟩ := labCells_at hx
      have c1 := hc _ _ x1
      have c2 := hc _ _ x2
      rw [← Nat.add_assoc] at c2
      simp only at c1 c2
      have hg := HG.out
      rw [hdr, findGoL] at hg
      simp only at hg
      have hbq := bytes_eq nm s
      clear hdr hx x1 x2 hc hkl
      by_cases he : nm = s
      · rw [if_pos he] at hg
        rw [decide_eq_true he] at hbq
        have HE := Lib.hid hg
        clear hg he
        go_wp2
        go_ret
        exact ⟨ret_int HE.out, rfl⟩
      · rw [if_neg he] at hg
        rw [decide_eq_false he] at hbq
        have HE := Lib.hid hg
        clear hg he
        go_wp2
        go_roundw
        case rel => exact ⟨k + 1, ⟨by omega, by go_num⟩, HE, trivial⟩
        case measure => simp [intOf]; omega
    · obtain rfl : k = n := by omega
      have hg := HG.out
      rw [List.drop_of_length_le (by rw [HLen.out]; exact Nat.le_refl _), findGoL] at hg
      have HE := Lib.hid hg
      clear hg
      go_wp2
      go_ret
      exact ⟨ret_int HE.out, rfl⟩

theorem shapeG_snoc (l : List (Nat × ByteArray)) (x : Nat × ByteArray) : shapeG (l ++ [x]) = shapeG l ++ (clsW x ++ [32]) := by simp [shapeG]
theorem shapeG_le : ∀ (l : List (Nat × ByteArray)), (∀ x ∈ l, x ∈ allCls) → (shapeG l).length ≤ 6 * l.length
  | [], _ => Nat.le_refl _
  | x :: l, h => by
    have ih := shapeG_le l (fun z hz => h z (by simp [hz]))
    have hx := cls_len x (h x (by simp))
    rw [shapeG_cons]
    simp only [List.length_append, List.length_cons]
    omega
set_option maxRecDepth 100000 in
set_option maxHeartbeats 8000000 in
theorem rshape_any (l : List Tok) (A : Option Addr) (n c : Nat) (w : World) (hr : RdT w w.heap.size A n l) (hl : LineOk l) (hn : n ≤ 100000) :
    Calls Tryd.prog 39 #[.slice A n c] w fun e w' => e = .returned (.string (shapeP l)) ∧ Below w.heap.size w w' := by
  have hlen := hr.tokLen
  have HR := Lib.hid hr
  have HLen := Lib.hid hlen
  have HLo := Lib.hid hl
  clear hr hlen hl
  go_enter Tryd.func39, Tryd.ntmps39
  go_wp2
  go_loopw [3, 4] (fun sv i wr => ∃ (k : Nat), (k ≤ n ∧ i = .int .i64 k ∧ sv = .string ⟨(shapeG ((l.take k).map clsT)).toArray⟩) ∧ Hid (Below w.heap.size w wr)) (fun _ i _ => n - (intOf i).toNat)
  case atStart => exact ⟨0, ⟨by omega, rfl, rfl⟩, Below.refl _ _⟩
  case round =>
    obtain ⟨k, ⟨hk, rfl, rfl⟩, HB⟩ := hrel
    by_cases hlt : k < n
    · have hlti : (k : Int) < (n : Int) := by omega
      have hsl := shapeG_le ((l.take k).map clsT) (fun x hx => by
        obtain ⟨t, ht, rfl⟩ := List.mem_map.1 hx
        exact clsT_all (HLo.out t (List.mem_of_mem_take ht)).1 (HLo.out t (List.mem_of_mem_take ht)).2)
      rw [List.length_map, List.length_take] at hsl
      obtain ⟨b, o, ⟨kd, tx, nu, ta, tl⟩, rfl, hbB, ht, c0, c1, c2, c3, c4⟩ := (HR.out.below HB.out).tokAt hlt
      have HTk : Hid (shapeG ((l.take (k + 1)).map clsT) = shapeG ((l.take k).map clsT) ++ (clsW (clsT ⟨kd, tx, nu, ta, tl⟩) ++ [32])) := by
        show _ = _
        rw [List.take_add_one, ht]
        simp [shapeG]
      have hf := HLo.out _ (List.mem_of_getElem? ht)
      have hts := form_size hf.1
      simp only at hts
      have hk3 := hf.2
      have hk03 : kd = 0 ∨ kd = 1 ∨ kd = 2 := by
        rcases hf.1 with h | h | h | h
        · exact .inl h.1
        · exact .inr (.inl h.1)
        · exact .inr (.inr h.1)
        · exact absurd h.1 hk3
      clear hf hk3 ht
      obtain ⟨ac, hac⟩ : ∃ ac, shapeG ((l.take k).map clsT) = ac := ⟨_, rfl⟩
      rw [hac] at hsl HTk ⊢
      clear hac
      have hacl : ac.length ≤ 600000 := by omega
      clear hsl
      go_upto_region 6 with fail
      obtain ⟨W1, hW1⟩ : ∃ W1, wr.alloc (.cells #[.int .i64 kd, .string tx, .int .u64 nu, .int .i64 ta, .int .i64 tl] 93) = W1 := ⟨_, rfl⟩
      rw [hW1]
      have HI1 : Hid (Bk W1 wr.heap.size 93 #[.int .i64 kd, .string tx, .int .u64 nu, .int .i64 ta, .int .i64 tl]) := by show Bk _ _ _ _; rw [← hW1]; exact Bk.new _ _ _
      have HB1 : Hid (Below w.heap.size w W1) := by show Below _ _ _; rw [← hW1]; exact HB.out.alloc HB.out.size _
      clear hW1 c0 c1 c2 c3 c4
      have j0 : W1.cell? ⟨wr.heap.size, 0, none⟩ = some (.int .i64 kd) := HI1.out.cell 0
      have j1 : W1.cell? ⟨wr.heap.size, 1, none⟩ = some (.string tx) := HI1.out.cell 1
      have hky := fun W => rkey_any tx W
      rcases hk03 with rfl | rfl | rfl
      · obtain ⟨kb, hkb⟩ : ∃ kb, keyP tx = kb := ⟨_, rfl⟩
        rw [hkb] at hky
        cases kb
        · by_cases hrg : 0 ≤ regP tx
          · have HC : Hid (clsT ⟨0, tx, nu, ta, tl⟩ = (0, ⟨#[]⟩)) := by show _ = _; rw [clsT_word, if_neg (by rw [hkb]; simp), if_pos hrg]
            have HRt := Lib.hid (fun W => rregister_any tx W)
            clear hkb
            go_wp2_with (first
              | (go_at_call 61; refine (hky _).mono ?_; rintro e w9 ⟨rfl, he9⟩; obtain rfl : W1 = w9 := he9.symm)
              | (go_at_call 62; refine (HRt.out W1).mono ?_; rintro e w2 ⟨rfl, hb2⟩; have HB2 := Lib.hid (HB1.out.trans (hb2.mono HB1.out.size)); clear hb2))
            go_roundw
            case rel =>
              refine ⟨k + 1, ⟨by omega, by go_num, ?_⟩, HB2.out⟩
              rw [HTk.out, HC.out]
              refine congrArg Value.string (ByteArray.ext (Array.toList_inj.1 ?_))
              simp [ByteArray.data_append, clsW]
            case measure => simp [intOf]; omega
          · have HC : Hid (clsT ⟨0, tx, nu, ta, tl⟩ = (2, ⟨#[]⟩)) := by show _ = _; rw [clsT_word, if_neg (by rw [hkb]; simp), if_neg hrg]
            have HRt := Lib.hid (fun W => rregister_any tx W)
            clear hkb
            go_wp2_with (first
              | (go_at_call 61; refine (hky _).mono ?_; rintro e w9 ⟨rfl, he9⟩; obtain rfl : W1 = w9 := he9.symm)
              | (go_at_call 62; refine (HRt.out W1).mono ?_; rintro e w2 ⟨rfl, hb2⟩; have HB2 := Lib.hid (HB1.out.trans (hb2.mono HB1.out.size)); clear hb2))
            go_roundw
            case rel =>
              refine ⟨k + 1, ⟨by omega, by go_num, ?_⟩, HB2.out⟩
              rw [HTk.out, HC.out]
              refine congrArg Value.string (ByteArray.ext (Array.toList_inj.1 ?_))
              simp [ByteArray.data_append, clsW]
            case measure => simp [intOf]; omega
        · have HC : Hid (clsT ⟨0, tx, nu, ta, tl⟩ = (3, tx)) := by show _ = _; rw [clsT_word, if_pos hkb]
          clear hkb
          go_wp2_with (go_at_call 61; refine (hky _).mono ?_; rintro e w9 ⟨rfl, he9⟩; obtain rfl : W1 = w9 := he9.symm)
          go_roundw
          case rel =>
            refine ⟨k + 1, ⟨by omega, by go_num, ?_⟩, HB1.out⟩
            rw [HTk.out, HC.out]
            refine congrArg Value.string (ByteArray.ext (Array.toList_inj.1 ?_))
            simp [ByteArray.data_append, clsW]
          case measure => simp [intOf]; omega
      · have HC : Hid (clsT ⟨1, tx, nu, ta, tl⟩ = (1, ⟨#[]⟩)) := by show _ = _; unfold clsT; rw [if_pos rfl]
        go_wp2
        go_roundw
        case rel =>
          refine ⟨k + 1, ⟨by omega, by go_num, ?_⟩, HB1.out⟩
          rw [HTk.out, HC.out]
          refine congrArg Value.string (ByteArray.ext (Array.toList_inj.1 ?_))
          simp [ByteArray.data_append, clsW]
        case measure => simp [intOf]; omega
      · have HC : Hid (clsT ⟨2, tx, nu, ta, tl⟩ = (4, tx)) := by show _ = _; exact clsT_sgn _ _ _ _
        go_wp2
        go_roundw
        case rel =>
          refine ⟨k + 1, ⟨by omega, by go_num, ?_⟩, HB1.out⟩
          rw [HTk.out, HC.out]
          refine congrArg Value.string (ByteArray.ext (Array.toList_inj.1 ?_))
          simp [ByteArray.data_append, clsW]
        case measure => simp [intOf]; omega
    · obtain rfl : k = n := by omega
      have hT : l.take k = l := List.take_of_length_le (by rw [HLen.out]; exact Nat.le_refl _)
      rw [hT]
      go_wp2
      go_ret
      exact ⟨rfl, HB.out⟩
end Go.Proofs.YthdlihiehfkceaaDoor
