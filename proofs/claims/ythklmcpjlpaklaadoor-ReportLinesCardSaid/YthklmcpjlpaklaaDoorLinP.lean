/-
  Chapter 25, plain: the lines of calls, queues and chains are read as tokens.
-/
import Derived.Test.YthklmcpjlpaklaaDoorLexB
import Derived.Test.YthklmcpjlpaklaaDoorRepR
namespace Go.Proofs.YthklmcpjlpaklaaDoor
open Go.RowKit
set_option linter.unusedVariables false

def tW (w : Bys) : Tok := ⟨0, ⟨w.toArray⟩, 0, 0, 0⟩
def tN (u : Int) : Tok := ⟨1, ⟨#[]⟩, u, 0, 0⟩
def tB (b : ByteArray) : Tok := ⟨2, b, 0, 0, 0⟩
def tS (c : Nat) : Tok := tB (Utf8.encode (c : Int))
def tE : Tok := ⟨3, ⟨#[]⟩, 0, 0, 0⟩
theorem text_W (w : Bys) : tokText (tW w) = w := by simp [tokText, tW]
theorem text_N (u : Int) : tokText (tN u) = dec u := rfl
theorem text_S58 : tokText (tS 58) = [58] := by decide +kernel
theorem text_S61 : tokText (tS 61) = [61] := by decide +kernel
theorem text_S45 : tokText (tS 45) = [45] := by decide +kernel
/-- A token that a line is made of. -/
def Good (t : Tok) : Prop := Form t ∧ t.kind ≠ 3
theorem Good.kinds {t : Tok} (h : Good t) : ¬ (t.kind < 0 ∨ 3 < t.kind) := by
  rcases h.1 with h | h | h | h <;> have := h.1 <;> omega
theorem good_N {u : Int} (h0 : 0 ≤ u) (h1 : u ≤ 18446744073709551615) : Good (tN u) :=
  ⟨.inr (.inl ⟨rfl, rfl, u.toNat, by omega, by show u = _; omega⟩), by simp [tN]⟩
theorem good_B {b : ByteArray} {c : Nat} (h : isSign c = true) (hb : b = Utf8.encode (c : Int)) : Good (tB b) := ⟨.inr (.inr (.inl ⟨rfl, rfl, c, h, hb⟩)), by show (2 : Int) ≠ 3; decide⟩
theorem good_S {c : Nat} (h : isSign c = true) : Good (tS c) := good_B h rfl
def wordB (w : Bys) : Bool := match w with
  | [] => false
  | x :: r => runByte x && r.all moreByte && !isDigit x.toNat && decide (r.length < 24)
theorem good_W {w : Bys} (h : wordB w = true) : Good (tW w) := by
  cases w with
  | nil => simp [wordB] at h
  | cons x r =>
    simp only [wordB, Bool.and_eq_true, List.all_eq_true, Bool.not_eq_true', decide_eq_true_eq] at h
    obtain ⟨⟨⟨h1, h2⟩, h3⟩, h4⟩ := h
    refine ⟨.inl ⟨rfl, ?_, ?_, ?_, rfl⟩, by simp [tW]⟩
    · exact ⟨x, r, by simp [tW], h1, h2⟩
    · show headR (x :: r).toArray.toList = false
      simpa [headR] using h3
    · show (x :: r).toArray.toList.length ≤ 24
      simp; omega

theorem print_tail : ∀ l : List Tok, (∀ t ∈ l, Good t) → printGo (l ++ [tE]) false = Lib.joinTail [32] (l.map tokText) ++ [10]
  | [], _ => rfl
  | t :: r, h => by
    have ht := h t (by simp)
    rw [List.cons_append, printGo, if_neg ht.2, if_neg ht.kinds, print_tail r (fun x hx => h x (by simp [hx]))]
    simp [Lib.joinTail]
theorem print_line (t : Tok) (r : List Tok) (h : ∀ x ∈ t :: r, Good x) : printGo (t :: r ++ [tE]) true = lineP ((t :: r).map tokText) := by
  have ht := h t (by simp)
  rw [List.cons_append, printGo, if_neg ht.2, if_neg ht.kinds, print_tail r (fun x hx => h x (by simp [hx])), lineP, List.map_cons, Lib.join_cons]
  simp
theorem sameP_kinds : ∀ {l r : List Tok}, sameP l r = true → l.map (·.kind) = r.map (·.kind)
  | [], [], _ => rfl
  | x :: l, y :: r, h => by
    simp only [sameP, Bool.and_eq_true, decide_eq_true_eq] at h
    rw [List.map_cons, List.map_cons, h.1.1, sameP_kinds h.2]
  | [], y :: r, h => by simp [sameP] at h
  | x :: l, [], h => by simp [sameP] at h
/-- A line of such tokens is read as that many tokens, and one more: its end, the only one. -/
theorem lex_line (t : Tok) (r : List Tok) (h : ∀ x ∈ t :: r, Good x) (hl : r.length ≤ 1000) (S : ByteArray) (hS : S.data.toList = lineP ((t :: r).map tokText)) (hs : S.size ≤ 65536) :
    ∃ l', lexP S = (l', 0, 0) ∧ l'.length = r.length + 2 ∧ ∀ k x, l'[k]? = some x → (x.kind = 3 ↔ k = r.length + 1) := by
  have hf : ∀ x ∈ t :: r ++ [tE], Form x := fun x hx => by
    rcases List.mem_append.1 hx with hx | hx
    · exact (h x hx).1
    · obtain rfl := List.mem_singleton.1 hx
      exact .inr (.inr (.inr ⟨rfl, rfl, rfl⟩))
  obtain ⟨l', h1, h2⟩ := relex (t :: r ++ [tE]) true 0 r0 hf rfl rfl (by simp [r0]; omega)
  have hk := sameP_kinds h1
  have hlen : l'.length = r.length + 2 := by
    have := congrArg List.length hk
    simp at this; omega
  refine ⟨l', ?_, hlen, fun k x hx => ?_⟩
  · rw [lexP_R S hs, hS, ← print_line t r h, h2]; rfl
  · have hx' : (l'.map (·.kind))[k]? = some x.kind := by rw [List.getElem?_map, hx]; rfl
    rw [hk] at hx'
    have hkl : k < r.length + 2 := by rw [← hlen]; exact (List.getElem?_eq_some_iff.1 hx).1
    by_cases he : k = r.length + 1
    · subst he
      have : ((t :: r ++ [tE]).map (·.kind))[r.length + 1]? = some 3 := by
        rw [List.map_append, List.getElem?_append_right (by simp)]
        simp [tE]
      rw [this] at hx'
      simp at hx'
      simp [← hx']
    · have : ((t :: r ++ [tE]).map (·.kind))[k]? = (t :: r)[k]?.map (·.kind) := by
        rw [List.map_append, List.getElem?_append_left (by simp; omega), List.getElem?_map]
      rw [this] at hx'
      obtain ⟨y, hy, hyk⟩ := Option.map_eq_some_iff.1 hx'
      have hg := (h y (List.mem_of_getElem? hy)).2
      rw [hyk] at hg
      simp [hg, he]

/-! The names. -/
def qNames : List Bys := [[110, 101, 119], [112, 117, 116], [116, 97, 107, 101], [112, 101, 101, 107], [115, 105, 122, 101], [100, 114, 111, 112]]
def cNames : List Bys := [[110, 101, 119], [97, 100, 100], [100, 101, 108], [104, 97, 115], [108, 101, 97, 115, 116], [115, 105, 122, 101], [100, 114, 111, 112]]
def tNames : List Bys := [[110, 101, 119], [112, 117, 116], [103, 101, 116], [100, 101, 108], [115, 105, 122, 101], [100, 114, 111, 112]]
def objNames : List Bys := qNames.map ([113, 117, 101, 117, 101, 46] ++ ·) ++ cNames.map ([99, 104, 97, 105, 110, 46] ++ ·) ++ tNames.map ([116, 97, 98, 108, 101, 46] ++ ·)
theorem objNames_good : ∀ x ∈ objNames, wordB x = true := by decide +kernel
theorem objNames_len : objNames.length = 19 := rfl

/-! A call's line. -/
def errToks (e : Int) : List Tok := if e = 30 then [tW [99, 111, 100, 101]] else if e = 41 then [tW [102, 117, 101, 108]] else if e = 42 then [tW [119, 114, 105, 116, 101, 115]] else if e = 43 then [tW [109, 101, 109]] else if e = 44 then [tW [104, 97, 110, 100, 108, 101]] else if e = 45 then [tW [108, 97, 115, 116]] else [tW [101, 114, 114, 111, 114], tN e]
def resToks (done : Bool) (code val : Int) : List Tok := if done then (if code = 0 then [tN val] else if code = 40 then [tW [97, 98, 111, 114, 116], tN val] else errToks code) else [tS 45]
def recToks (r : Rec) : List Tok := tW [UInt8.ofNat (97 + r.who.toNat)] :: ([tN r.tag, tW (objNames.getD r.prog.toNat []), tN r.a0, tN r.a1, tN r.a2, tN r.a3, tS 58, tN r.from_, tN r.till, tN r.steps, tS 61] ++ resToks r.done r.code r.val)
structure Rec.Plain (r : Rec) : Prop where
  who : 0 ≤ r.who ∧ r.who ≤ 7
  tag : 0 ≤ r.tag
  prog : 0 ≤ r.prog ∧ r.prog ≤ 18
  from_ : 0 ≤ r.from_
  till : 0 ≤ r.till
  steps : 0 ≤ r.steps
  code : 0 ≤ r.code
theorem itoa_dec {n : Int} (h : 0 ≤ n) : Lib.itoa n = dec n := itoa_pos (by omega)
theorem res_text (done : Bool) (code val : Int) (hc : 0 ≤ code) : Lib.joinTail [32] [if done then resultP code val else [45]] = Lib.joinTail [32] ((resToks done code val).map tokText) := by
  cases done
  · simp [resToks, text_S45]
  · simp only [resToks, if_true]
    unfold resultP
    by_cases h0 : code = 0
    · simp [h0, text_N]
    · by_cases h40 : code = 40
      · simp [h40, text_N, text_W, Lib.joinTail]
      · rw [if_neg h0, if_neg h40, if_neg h0, if_neg h40]
        unfold wordP errToks
        rw [if_neg h40, itoa_dec hc]
        by_cases h30 : code = 30
        · simp [h30, text_W]
        · by_cases h41 : code = 41
          · simp [h41, text_W]
          · by_cases h42 : code = 42
            · simp [h42, text_W]
            · by_cases h43 : code = 43
              · simp [h43, text_W]
              · by_cases h44 : code = 44
                · simp [h44, text_W]
                · by_cases h45 : code = 45
                  · simp [h45, text_W]
                  · simp [h30, h41, h42, h43, h44, h45, text_W, text_N, Lib.joinTail]
theorem joinTail_app (a b : List Bys) : Lib.joinTail [32] (a ++ b) = Lib.joinTail [32] a ++ Lib.joinTail [32] b := by simp [Lib.joinTail]
theorem rec_text (r : Rec) (h : r.Plain) : recordP (objNames.map str) r = lineP ((recToks r).map tokText) := by
  have h1 : whoP r.who = [UInt8.ofNat (97 + r.who.toNat)] := by rw [whoP, if_pos (by have := h.who; omega)]
  have h2 : progP (objNames.map str) r.prog = objNames.getD r.prog.toNat [] := by
    have hk : r.prog.toNat < objNames.length := by have := h.prog; rw [objNames_len]; omega
    rw [progP, if_pos (by rw [List.length_map, objNames_len]; have := h.prog; omega)]
    rw [List.getD_eq_getElem?_getD, List.getD_eq_getElem?_getD, List.getElem?_map, List.getElem?_eq_getElem hk]
    simp [str]
  have h3 := res_text r.done r.code r.val h.code
  rw [recordP, partsP, h1, h2, itoa_dec h.tag, itoa_dec h.from_, itoa_dec h.till, itoa_dec h.steps, lineP, lineP, recToks]
  rw [show ∀ x : Bys, [[UInt8.ofNat (97 + r.who.toNat)], dec r.tag, objNames.getD r.prog.toNat [], dec r.a0, dec r.a1, dec r.a2, dec r.a3, [58], dec r.from_, dec r.till, dec r.steps, [61], x] = [UInt8.ofNat (97 + r.who.toNat)] :: ([dec r.tag, objNames.getD r.prog.toNat [], dec r.a0, dec r.a1, dec r.a2, dec r.a3, [58], dec r.from_, dec r.till, dec r.steps, [61]] ++ [x]) from fun x => rfl]
  rw [Lib.join_cons, joinTail_app, h3, List.map_cons, List.map_append, Lib.join_cons, joinTail_app]
  simp only [List.map_cons, List.map_nil, text_W, text_N, text_S58, text_S61]
theorem rec_good (r : Rec) (h : r.Plain) (ho : r.Ok) : ∀ x ∈ recToks r, Good x := by
  have hN : ∀ u : Int, 0 ≤ u → u ≤ 9223372036854775807 → Good (tN u) := fun u h0 h1 => good_N h0 (by omega)
  have hw : Good (tW [UInt8.ofNat (97 + r.who.toNat)]) := by
    apply good_W
    have : r.who.toNat < 8 := by have := h.who; omega
    have hd : ∀ k : Fin 8, wordB [UInt8.ofNat (97 + k.val)] = true := by decide
    exact hd ⟨_, this⟩
  have hp : Good (tW (objNames.getD r.prog.toNat [])) := by
    have hk : r.prog.toNat < objNames.length := by have := h.prog; rw [objNames_len]; omega
    rw [List.getD_eq_getElem?_getD, List.getElem?_eq_getElem hk]
    exact good_W (objNames_good _ (List.getElem_mem hk))
  have hs : ∀ x ∈ resToks r.done r.code r.val, Good x := by
    intro x hx
    unfold resToks at hx
    split at hx
    · split at hx
      · obtain rfl := List.mem_singleton.1 hx
        exact good_N ho.val.1 ho.val.2
      · split at hx
        · rcases List.mem_cons.1 hx with rfl | hx
          · exact good_W (by decide +kernel)
          · obtain rfl := List.mem_singleton.1 hx
            exact good_N ho.val.1 ho.val.2
        · unfold errToks at hx
          repeat (split at hx; · (obtain rfl := List.mem_singleton.1 hx; exact good_W (by decide +kernel)))
          rcases List.mem_cons.1 hx with rfl | hx
          · exact good_W (by decide +kernel)
          · obtain rfl := List.mem_singleton.1 hx
            exact hN _ h.code ho.code.2
    · obtain rfl := List.mem_singleton.1 hx
      exact good_S (by decide +kernel)
  intro x hx
  rw [recToks] at hx
  rcases List.mem_cons.1 hx with rfl | hx
  · exact hw
  rcases List.mem_append.1 hx with hx | hx
  · simp only [List.mem_cons, List.not_mem_nil, or_false] at hx
    rcases hx with rfl | rfl | rfl | rfl | rfl | rfl | rfl | rfl | rfl | rfl | rfl
    · exact hN _ h.tag ho.tag.2
    · exact hp
    · exact good_N ho.a0.1 ho.a0.2
    · exact good_N ho.a1.1 ho.a1.2
    · exact good_N ho.a2.1 ho.a2.2
    · exact good_N ho.a3.1 ho.a3.2
    · exact good_S (by decide +kernel)
    · exact hN _ h.from_ ho.from_.2
    · exact hN _ h.till ho.till.2
    · exact hN _ h.steps ho.steps.2
    · exact good_S (by decide +kernel)
  · exact hs x hx

/-- Of a call's line: one line, that is read as tokens. -/
def OneLine (S : ByteArray) (l' : List Tok) : Prop := lexP S = (l', 0, 0) ∧ 0 < l'.length ∧ ∀ k x, l'[k]? = some x → (x.kind = 3 ↔ k + 1 = l'.length)
theorem rec_line (r : Rec) (h : r.Plain) (ho : r.Ok) (hs : (str (recordP (objNames.map str) r)).size ≤ 65536) : ∃ l', OneLine (str (recordP (objNames.map str) r)) l' ∧ l'.length ≤ 1000 := by
  have hl : (resToks r.done r.code r.val).length ≤ 2 := by
    unfold resToks errToks
    repeat (first | split | simp)
  obtain ⟨l', h1, h2, h3⟩ := lex_line _ _ (rec_good r h ho) (by simp; omega) (str (recordP (objNames.map str) r)) (by rw [str_list, rec_text r h]; rfl) hs
  exact ⟨l', ⟨h1, by omega, fun k x hx => by rw [h3 k x hx]; omega⟩, by simp at h2; omega⟩

/-! A thing's line. -/
def thingToks (root : Int) (word : Bys) (cap : Int) (l : List Int) : List Tok := tN root :: (tW word :: tN cap :: tS 58 :: l.map tN)
theorem thing_line (root : Int) (word : Bys) (cap : Int) (l : List Int) (hr0 : 0 ≤ root) (hr1 : root ≤ 9223372036854775807) (hw : wordB word = true) (hc0 : 0 ≤ cap) (hc1 : cap ≤ 18446744073709551615) (hok : ∀ x ∈ l, 0 ≤ x ∧ x ≤ 18446744073709551615) (hl : l.length ≤ 30)
    (hs : (str (thingP root word cap (l.map dec))).size ≤ 65536) : ∃ l', OneLine (str (thingP root word cap (l.map dec))) l' ∧ l'.length = 5 + l.length := by
  have hg : ∀ x ∈ thingToks root word cap l, Good x := by
    intro x hx
    simp only [thingToks, List.mem_cons] at hx
    rcases hx with rfl | rfl | rfl | rfl | hx
    · exact good_N hr0 (by omega)
    · exact good_W hw
    · exact good_N hc0 hc1
    · exact good_S (by decide +kernel)
    · obtain ⟨u, hu, rfl⟩ := List.mem_map.1 hx
      exact good_N (hok u hu).1 (hok u hu).2
  obtain ⟨l', h1, h2, h3⟩ := lex_line _ _ hg (by simp; omega) (str (thingP root word cap (l.map dec))) (by
    rw [str_list, thingP, itoa_dec hr0]
    simp only [List.map_cons, List.map_map, text_N, text_W, text_S58]
    rfl) hs
  simp at h2
  exact ⟨l', ⟨h1, by omega, fun k x hx => by rw [h3 k x hx]; simp; omega⟩, by omega⟩
end Go.Proofs.YthklmcpjlpaklaaDoor
