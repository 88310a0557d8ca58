/-
  Texts of one proof, joined (wip/gen/pack.py): TxtR, NamP, NamA.
-/
import Derived.Test.YthdlihiehfkceaaDoorPtBAA
import Derived.Test.YthdlihiehfkceaaDoorPtBAB
import Derived.Test.YthdlihiehfkceaaDoorPtAH
namespace Go.Proofs.YthdlihiehfkceaaDoor
open Go.RowKit
set_option linter.unusedVariables false

/-- A program's text with labels where told, is read as the program. -/
theorem asm_textGo {code : List Ins} (hf : fitsP code = true) (hm : ∀ i ∈ code, 0 ≤ i.imm ∧ i.imm ≤ 18446744073709551615) (cnt : Int → Nat) (hc : ∀ i ∈ code, goesP i.op = true → 0 < cnt i.imm) :
    (asmP ⟨(textGo cnt code 0).toArray⟩).1 = code ∧ (asmP ⟨(textGo cnt code 0).toArray⟩).2.2 = 0 := by
  obtain ⟨h1, h2, _⟩ := fits_some hf
  have hs := seg_text cnt code 0 (by omega) h2 hm
  have hl := textGo_le cnt code 0 (by omega) hm
  obtain ⟨g1, g2⟩ := textLines_len cnt code 0
  have ht := toks_le 7 _ g2
  have ha := asm_seg hs (by omega) (by omega)
  rw [lines_toks _ (lines_no3 cnt code 0 (by omega) h2 hm), asm_lines hf (fun i hi => (hm i hi).1) cnt hc] at ha
  injection ha with e1 e2
  exact ⟨e1, e2⟩
def noCnt : Int → Nat := fun _ => 0
def lineB (i : Ins) : List UInt8 := printP (lineToks i) ++ [10]
theorem textGo_no : ∀ (l : List Ins) (k : Nat), textGo noCnt l k = l.flatMap lineB
  | [], k => rfl
  | i :: r, k => by rw [textGo, textGo_no r]; rfl
theorem text_one {i : Ins} (hp : plainB i.op i.a i.b i.c i.imm = true) (hg : goesP i.op = false) : textP [i] = ⟨(lineB i).toArray⟩ := by
  have hf : fitsP [i] = true := by
    unfold fitsP fitsGo fitsGo jumpOk Ins.plain
    simp [hp, hg]
  obtain ⟨_, _, cnt, _, h4, h5⟩ := fits_some hf
  rw [h4]
  have h0 : ∀ x, ¬ 0 < cnt x := fun x e => by
    obtain ⟨j, hj, h, _⟩ := (h5 x).1 e
    rw [List.mem_singleton.1 hj, hg] at h; cases h
  have e : textGo cnt [i] 0 = lineB i := by
    rw [textGo, textGo]
    unfold headP
    rw [if_neg (h0 _), if_neg (h0 _)]
    simp [lineB]
  rw [e]
theorem lineB_le {i : Ins} (h : 0 ≤ i.imm ∧ i.imm ≤ 18446744073709551615) : (lineB i).length ≤ 176 := by
  have := print_line_le i h
  unfold lineB
  rw [List.length_append]
  simp; omega
theorem linesB_le : ∀ (l : List Ins), (∀ i ∈ l, 0 ≤ i.imm ∧ i.imm ≤ 18446744073709551615) → (l.flatMap lineB).length ≤ 176 * l.length
  | [], _ => Nat.le_refl _
  | i :: r, h => by
    have := lineB_le (h i (by simp))
    have ih := linesB_le r (fun j hj => h j (by simp [hj]))
    rw [List.flatMap_cons, List.length_append, List.length_cons]; omega
theorem fits_stay {l : List Ins} (hl : l.length ≤ 256) (hp : ∀ i ∈ l, plainB i.op i.a i.b i.c i.imm = true) (hg : ∀ i ∈ l, goesP i.op = false) : fitsP l = true := by
  have hgo : ∀ (n : Nat) (l : List Ins) (k : Nat), (∀ i ∈ l, goesP i.op = false) → fitsGo n l k = true := by
    intro n l
    induction l with
    | nil => intro k _; rfl
    | cons i r ih =>
      intro k h
      rw [fitsGo, ih (k + 1) (fun j hj => h j (by simp [hj]))]
      unfold jumpOk
      rw [h i (by simp)]; rfl
  unfold fitsP
  simp only [Bool.and_eq_true, decide_eq_true_eq]
  exact ⟨⟨hl, List.all_eq_true.2 hp⟩, hgo _ _ _ hg⟩
/-- Lines of instructions that go nowhere are read as they stand. -/
theorem asm_stay {l : List Ins} (hl : l.length ≤ 256) (hp : ∀ i ∈ l, plainB i.op i.a i.b i.c i.imm = true) (hm : ∀ i ∈ l, 0 ≤ i.imm ∧ i.imm ≤ 18446744073709551615) (hg : ∀ i ∈ l, goesP i.op = false) :
    ∃ a, asmP ⟨(l.flatMap lineB).toArray⟩ = (l, a, 0) := by
  have h := asm_textGo (fits_stay hl hp hg) hm noCnt (fun i hi e => by rw [hg i hi] at e; cases e)
  rw [textGo_no] at h
  generalize asmP ⟨(l.flatMap lineB).toArray⟩ = R at h
  obtain ⟨x, y, z⟩ := R
  obtain ⟨h1, h2⟩ := h
  exact ⟨y, by rw [show x = l from h1, show z = 0 from h2]⟩
/-- A program, begun at one of its places, round to it. -/
def rotP (code : List Ins) (t : Nat) : List Ins := (List.range code.length).map fun k => (code[(k + t) % code.length]?).getD ⟨0, 0, 0, 0, 0⟩
theorem rot_len (code : List Ins) (t : Nat) : (rotP code t).length = code.length := by simp [rotP]
theorem rot_at {code : List Ins} {t k : Nat} {i : Ins} (hk : k < code.length) (h : code[(k + t) % code.length]? = some i) : (rotP code t)[k]? = some i := by
  unfold rotP
  rw [List.getElem?_map, List.getElem?_range hk]
  simp [h]
theorem rot_mem {code : List Ins} {t : Nat} {i : Ins} (h : i ∈ rotP code t) : i ∈ code := by
  unfold rotP at h
  obtain ⟨k, hk, rfl⟩ := List.mem_map.1 h
  have hk' := List.mem_range.1 hk
  have hlt : (k + t) % code.length < code.length := Nat.mod_lt _ (by omega)
  rw [List.getElem?_eq_getElem hlt]
  exact List.getElem_mem hlt
end Go.Proofs.YthdlihiehfkceaaDoor

namespace Go.Proofs.YthdlihiehfkceaaDoor
open Go.RowKit
set_option linter.unusedVariables false

/-- "nobody.here" -/
def nobodyS : ByteArray := ⟨#[110, 111, 98, 111, 100, 121, 46, 104, 101, 114, 101]⟩
structure NameOk (nm : Nat → ByteArray) : Prop where
  key : ∀ k, keyP (nm k) = false
  reg : ∀ k, regP (nm k) < 0
  form : ∀ k, Form ⟨0, nm k, 0, 0, 0⟩
  inj : ∀ j k, j < 100 → k < 100 → nm j = nm k → j = k
  ne : ∀ k, nm k ≠ nobodyS
  empty : ∀ k, nm k ≠ ⟨#[]⟩
def nameP (a b : Nat) (k : Nat) : ByteArray := ⟨#[120, UInt8.ofNat (97 + a % 26), UInt8.ofNat (97 + b % 26), UInt8.ofNat (48 + k / 10 % 10), UInt8.ofNat (48 + k % 10)]⟩
theorem name_list (a b k : Nat) : (nameP a b k).data.toList = [120, UInt8.ofNat (97 + a % 26), UInt8.ofNat (97 + b % 26), UInt8.ofNat (48 + k / 10 % 10), UInt8.ofNat (48 + k % 10)] := rfl
theorem low_run (x : Nat) : runByte (UInt8.ofNat (97 + x % 26)) = true := by
  have h : ∀ y : Fin 26, runByte (UInt8.ofNat (97 + y.val)) = true := by decide
  exact h ⟨x % 26, Nat.mod_lt _ (by decide)⟩
theorem dig_run (x : Nat) : runByte (UInt8.ofNat (48 + x % 10)) = true := by
  have h : ∀ y : Fin 10, runByte (UInt8.ofNat (48 + y.val)) = true := by decide
  exact h ⟨x % 10, Nat.mod_lt _ (by decide)⟩
theorem dig_inj {x y : Nat} (h : UInt8.ofNat (48 + x % 10) = UInt8.ofNat (48 + y % 10)) : x % 10 = y % 10 := by
  have h2 := congrArg UInt8.toNat h
  rw [UInt8.toNat_ofNat', UInt8.toNat_ofNat'] at h2
  have := Nat.mod_lt x (show 0 < 10 by decide)
  have := Nat.mod_lt y (show 0 < 10 by decide)
  omega
theorem nameP_ok (a b : Nat) : NameOk (nameP a b) := by
  refine ⟨fun k => ?_, fun k => ?_, fun k => ?_, fun j k hj hk h => ?_, fun k h => ?_, fun k h => ?_⟩
  · cases hk : keyP (nameP a b k) with
    | false => rfl
    | true =>
      obtain ⟨c, hc, he⟩ := key_mem.1 hk
      have h0 : ∀ c ∈ keyRunes, (wordP c).data.toList.head? ≠ some 120 := by decide +kernel
      refine absurd ?_ (h0 c hc)
      rw [he, name_list]; rfl
  · have h0 : ∀ f q, q + f ≤ 16 → regGo (nameP a b k) f q = -1 := by
      intro f
      induction f with
      | zero => intro q _; rfl
      | succ f ih =>
        intro q hq
        have hne : ∀ y : Fin 16, (regName y.val).data.toList.head? ≠ some 120 := by decide +kernel
        rw [regGo, if_neg (fun e => hne ⟨q, by omega⟩ (by rw [show (regName (⟨q, by omega⟩ : Fin 16).val) = nameP a b k from e.symm, name_list]; rfl))]
        exact ih (q + 1) (by omega)
    have := h0 16 0 (by omega)
    unfold regP
    omega
  · refine .inl ⟨rfl, ?_, ?_, ?_, rfl⟩
    · show RunOk (nameP a b k).data.toList
      rw [name_list]
      refine runOk_small (by simp) fun y hy => ?_
      simp only [List.mem_cons, List.not_mem_nil, or_false] at hy
      rcases hy with rfl | rfl | rfl | rfl | rfl
      · decide
      · exact low_run _
      · exact low_run _
      · exact dig_run _
      · exact dig_run _
    · show headR (nameP a b k).data.toList = false
      rw [name_list]; rfl
    · show (nameP a b k).data.toList.length ≤ 24
      rw [name_list]; simp
  · have h2 : (nameP a b j).data.toList = (nameP a b k).data.toList := by rw [h]
    rw [name_list, name_list] at h2
    simp only [List.cons.injEq, and_true, true_and] at h2
    have h3 := dig_inj h2.1
    have h4 := dig_inj h2.2
    omega
  · have h2 : (nameP a b k).data.toList = nobodyS.data.toList := by rw [h]
    rw [name_list] at h2
    exact absurd (congrArg List.length h2) (by simp [nobodyS])
  · have h2 : (nameP a b k).data.toList = [] := by rw [h]
    rw [name_list] at h2
    cases h2
theorem nobody_free : keyP nobodyS = false ∧ regP nobodyS < 0 := by decide +kernel
theorem nobody_form : Form ⟨0, nobodyS, 0, 0, 0⟩ := .inl ⟨rfl, ⟨110, _, rfl, by decide, by decide⟩, rfl, by decide, rfl⟩

def markT (s : ByteArray) : List Tok := [⟨0, s, 0, 0, 0⟩, ⟨2, ⟨#[58]⟩, 0, 0, 0⟩]
def lineN (nm : Nat → ByteArray) (i : Ins) : List Tok := (formP i.op).map fun c => if c = 108 then ⟨0, nm i.imm.toNat, 0, 0, 0⟩ else tokP c i
def lnB (nm : Nat → ByteArray) (i : Ins) : List UInt8 := if goesP i.op = true then printP (lineN nm i) ++ [10] else lineB i
def lnT (nm : Nat → ByteArray) (i : Ins) : List Tok := if goesP i.op = true then lineN nm i else lineToks i
def hdB (nm : Nat → ByteArray) (at_ k : Nat) : List UInt8 := (nm k).data.toList ++ [58, 10] ++ (if k = at_ then nobodyS.data.toList ++ [58, 10] else [])
def hdT (nm : Nat → ByteArray) (at_ k : Nat) : List (List Tok) := markT (nm k) :: (if k = at_ then [markT nobodyS] else [])
def txB (nm : Nat → ByteArray) (at_ : Nat) : List Ins → Nat → List UInt8
  | [], k => hdB nm at_ k
  | i :: r, k => hdB nm at_ k ++ lnB nm i ++ txB nm at_ r (k + 1)
def txT (nm : Nat → ByteArray) (at_ : Nat) : List Ins → Nat → List (List Tok)
  | [], k => hdT nm at_ k
  | i :: r, k => hdT nm at_ k ++ [lnT nm i] ++ txT nm at_ r (k + 1)
theorem seg_colon : SegA [58, 10] [⟨2, ⟨#[58]⟩, 0, 0, 0⟩, endT] := by
  have hs : isSign 58 = true := by decide
  have he : Utf8.encode ((58 : Nat) : Int) = ⟨#[58]⟩ := by decide +kernel
  have h := seg_sign hs (t := ⟨2, ⟨#[58]⟩, 0, 0, 0⟩) rfl rfl he.symm
  exact h.app seg_nl
theorem seg_mark {s : ByteArray} (hf : Form ⟨0, s, 0, 0, 0⟩) : SegA (s.data.toList ++ [58, 10]) (markT s ++ [endT]) := by
  have h := seg_tok hf (show (0 : Int) ≠ 3 by decide)
  have e : tokText ⟨0, s, 0, 0, 0⟩ = s.data.toList := rfl
  rw [e] at h
  exact h.appA ⟨58, [10], rfl, by decide⟩ seg_colon
theorem seg_hd {nm : Nat → ByteArray} (hn : NameOk nm) (at_ k : Nat) : SegA (hdB nm at_ k) (toks (hdT nm at_ k)) := by
  unfold hdB hdT
  have h1 := seg_mark (hn.form k)
  by_cases h : k = at_
  · rw [if_pos h, if_pos h]
    have h2 := h1.app (seg_mark nobody_form)
    have e : toks [markT (nm k), markT nobodyS] = (markT (nm k) ++ [endT]) ++ (markT nobodyS ++ [endT]) := by simp [toks]
    rw [e]; exact h2
  · rw [if_neg h, if_neg h, List.append_nil]
    have e : toks [markT (nm k)] = markT (nm k) ++ [endT] := by simp [toks]
    rw [e]; exact h1
theorem lineN_form {nm : Nat → ByteArray} (hn : NameOk nm) {i : Ins} (hp : plainB i.op i.a i.b i.c i.imm = true) (hm : 0 ≤ i.imm ∧ i.imm ≤ 18446744073709551615) : ∀ t ∈ lineN nm i, Form t ∧ t.kind ≠ 3 := by
  intro t ht
  unfold lineN at ht
  obtain ⟨c, hc, rfl⟩ := List.mem_map.1 ht
  split
  · exact ⟨hn.form _, (show (0 : Int) ≠ 3 by decide)⟩
  · exact line_form hp hm _ (List.mem_map.2 ⟨c, hc, rfl⟩)
theorem lineN_ne (nm : Nat → ByteArray) (i : Ins) : lineN nm i ≠ [] := by
  have h := line_ne i
  unfold lineToks at h
  unfold lineN
  intro e
  rw [List.map_eq_nil_iff] at e
  exact h (by rw [e]; rfl)
theorem seg_ln {nm : Nat → ByteArray} (hn : NameOk nm) {i : Ins} (hp : plainB i.op i.a i.b i.c i.imm = true) (hm : 0 ≤ i.imm ∧ i.imm ≤ 18446744073709551615) : SegA (lnB nm i) (lnT nm i ++ [endT]) := by
  unfold lnB lnT
  split
  · exact (seg_line (lineN nm i) true (lineN_ne nm i) (lineN_form hn hp hm)).appA nl_stop seg_nl
  · exact seg_ins hp hm
theorem seg_tx {nm : Nat → ByteArray} (hn : NameOk nm) (at_ : Nat) : ∀ (l : List Ins) (k : Nat), (∀ i ∈ l, plainB i.op i.a i.b i.c i.imm = true) → (∀ i ∈ l, 0 ≤ i.imm ∧ i.imm ≤ 18446744073709551615) → SegA (txB nm at_ l k) (toks (txT nm at_ l k))
  | [], k, _, _ => seg_hd hn at_ k
  | i :: r, k, hp, hm => by
    have ih := seg_tx hn at_ r (k + 1) (fun j hj => hp j (by simp [hj])) (fun j hj => hm j (by simp [hj]))
    have hi := seg_ln hn (hp i (by simp)) (hm i (by simp))
    rw [txB, txT, toks_app, toks_app]
    have e : toks [lnT nm i] = lnT nm i ++ [endT] := by simp [toks]
    rw [e]
    exact ((seg_hd hn at_ k).app hi).app ih
theorem mark_no3 (s : ByteArray) : ∀ t ∈ markT s, t.kind ≠ 3 := by
  intro t ht
  simp only [markT, List.mem_cons, List.not_mem_nil, or_false] at ht
  rcases ht with rfl | rfl
  · exact (show (0 : Int) ≠ 3 by decide)
  · exact (show (2 : Int) ≠ 3 by decide)
theorem hd_mem {nm : Nat → ByteArray} {at_ k : Nat} {x : List Tok} (h : x ∈ hdT nm at_ k) : ∃ s, x = markT s := by
  unfold hdT at h
  rcases List.mem_cons.1 h with rfl | h
  · exact ⟨_, rfl⟩
  · split at h
    · exact ⟨_, List.mem_singleton.1 h⟩
    · cases h
theorem tx_mem {nm : Nat → ByteArray} {at_ : Nat} : ∀ {l : List Ins} {k : Nat} {x : List Tok}, x ∈ txT nm at_ l k → (∃ s, x = markT s) ∨ ∃ i ∈ l, x = lnT nm i
  | [], k, x, h => .inl (hd_mem h)
  | i :: r, k, x, h => by
    rw [txT] at h
    simp only [List.mem_append, List.mem_cons, List.not_mem_nil, or_false] at h
    rcases h with (h | rfl) | h
    · exact .inl (hd_mem h)
    · exact .inr ⟨i, by simp, rfl⟩
    · rcases tx_mem h with h | ⟨j, hj, h⟩
      · exact .inl h
      · exact .inr ⟨j, by simp [hj], h⟩
theorem tx_len (nm : Nat → ByteArray) (at_ : Nat) : ∀ (l : List Ins) (k : Nat), (txT nm at_ l k).length ≤ 3 * l.length + 2
  | [], k => by rw [txT]; unfold hdT; split <;> simp
  | i :: r, k => by
    have ih := tx_len nm at_ r (k + 1)
    have : (hdT nm at_ k).length ≤ 2 := by unfold hdT; split <;> simp
    rw [txT]
    simp only [List.length_append, List.length_cons, List.length_nil]
    omega
theorem mark_read {s : ByteArray} (hk : keyP s = false) (hr : regP s < 0) {p : Prg} (hn : p.find s = none) : readGo [markT s] p = (⟨p.orders, p.labels ++ [(s, p.orders.length)]⟩, 0, 0) := by
  have hf : freeP s = true := by unfold freeP; rw [hk]; simp; exact hr
  have hm : isMark (markT s) = some (s, 0) := by
    show (if _ then _ else _) = _
    rw [if_pos ⟨rfl, hf, rfl, rfl⟩]
  have hp : parseP (markT s) = some (.mark s 0) := by unfold parseP; rw [hm]
  have ha : addP p (.mark s 0) = (⟨p.orders, p.labels ++ [(s, p.orders.length)]⟩, 0) := by unfold addP; simp only; rw [hn]; rfl
  rw [readGo, if_neg (by simp [markT]), hp]
  simp only
  rw [ha]; rfl
/-- The labels that stand behind k of them. -/
structure LabN (nm : Nat → ByteArray) (at_ : Nat) (p : Prg) (k : Nat) : Prop where
  nm_ : ∀ j, j < 100 → p.find (nm j) = if j < k then some j else none
  no : k ≤ at_ → p.find nobodyS = none
theorem find_snoc2 {p : Prg} {s t : ByteArray} {q : Nat} (hn : p.find s = none) : Prg.find ⟨p.orders, p.labels ++ [(s, q)]⟩ t = if t = s then some q else p.find t := by
  have := find_snoc p.orders p.labels s t q hn
  exact this
theorem read_hd {nm : Nat → ByteArray} (hn : NameOk nm) (at_ : Nat) {p : Prg} {k : Nat} (hk : k < 99) (hl : LabN nm at_ p k) (ho : p.orders.length = k) :
    ∃ p', readGo (hdT nm at_ k) p = (p', 0, 0) ∧ LabN nm at_ p' (k + 1) ∧ p'.orders = p.orders := by
  have h0 : p.find (nm k) = none := by rw [hl.nm_ k (by omega), if_neg (by omega)]
  have h1 := mark_read (hn.key k) (hn.reg k) h0
  have hf1 : ∀ t, Prg.find ⟨p.orders, p.labels ++ [(nm k, p.orders.length)]⟩ t = if t = nm k then some k else p.find t := by intro t; rw [find_snoc2 h0, ho]
  have hL : ∀ j, j < 100 → Prg.find ⟨p.orders, p.labels ++ [(nm k, p.orders.length)]⟩ (nm j) = if j < k + 1 then some j else none := by
    intro j hj
    rw [hf1]
    by_cases e : nm j = nm k
    · obtain rfl := hn.inj j k hj (by omega) e
      rw [if_pos rfl, if_pos (by omega)]
    · have hne : j ≠ k := fun h => e (by rw [h])
      rw [if_neg e, hl.nm_ j hj]
      by_cases h : j < k
      · rw [if_pos h, if_pos (by omega)]
      · rw [if_neg h, if_neg (by omega)]
  unfold hdT
  by_cases h : k = at_
  · rw [if_pos h]
    have h2 : Prg.find ⟨p.orders, p.labels ++ [(nm k, p.orders.length)]⟩ nobodyS = none := by rw [hf1, if_neg (fun e => hn.ne k e.symm)]; exact hl.no (by omega)
    have h3 := mark_read nobody_free.1 nobody_free.2 h2
    have e : [markT (nm k), markT nobodyS] = [markT (nm k)] ++ [markT nobodyS] := rfl
    refine ⟨⟨p.orders, p.labels ++ [(nm k, p.orders.length)] ++ [(nobodyS, p.orders.length)]⟩, by rw [e, readGo_app _ _ _ (by rw [h1]), h1]; exact h3, ⟨fun j hj => ?_, fun h => by omega⟩, rfl⟩
    have hf2 := find_snoc2 (q := p.orders.length) (t := nm j) h2
    rw [if_neg (hn.ne j)] at hf2
    exact hf2.trans (hL j hj)
  · rw [if_neg h]
    refine ⟨_, h1, ⟨hL, fun h2 => ?_⟩, rfl⟩
    rw [hf1, if_neg (fun e => hn.ne k e.symm)]
    exact hl.no (by omega)
theorem lineN_cls {nm : Nat → ByteArray} (hn : NameOk nm) (i : Ins) (ha : 0 ≤ i.a ∧ i.a < 16) (hb : 0 ≤ i.b ∧ i.b < 16) (hc : 0 ≤ i.c ∧ i.c < 16) : (lineN nm i).map clsT = (formP i.op).map clsF := by
  unfold lineN
  rw [List.map_map]
  refine List.map_congr_left fun c _ => ?_
  show clsT (if c = 108 then _ else _) = _
  by_cases h : c = 108
  · rw [if_pos h, h, clsT_word, if_neg (by rw [hn.key]; simp), if_neg (by have := hn.reg i.imm.toNat; omega)]; rfl
  · rw [if_neg h]; exact tok_cls c i ha hb hc
def orderN (nm : Nat → ByteArray) (i : Ins) : Ord := if goesP i.op = true then ⟨{ i with imm := 0 }, nm i.imm.toNat, 0⟩ else ⟨i, ⟨#[]⟩, 0⟩
theorem takes_lineN {nm : Nat → ByteArray} (op : Nat) (hg : op = 17 ∨ op = 18 ∨ op = 19) (a b c : Nat) (imm : Int) (ha : a < 16) (hp : plainB op a b c imm = true) :
    takes (formP (op : Int)) (lineN nm ⟨op, a, b, c, imm⟩) (ord0 op (lineN nm ⟨op, a, b, c, imm⟩)) = ⟨⟨op, a, b, c, 0⟩, nm imm.toNat, 0⟩ := by
  obtain ⟨u1, u2, u3, u4⟩ := plain_unused hp
  have r1 := (reg_name a ha).1
  clear hp
  obtain rfl | rfl | rfl := hg
  all_goals
    simp [regsOf, immOf] at u1 u2 u3 u4
    simp [takes, lineN, formP, tokP, wordP, takeP, ord0, *]
theorem parse_lnT {nm : Nat → ByteArray} (hn : NameOk nm) {i : Ins} (hp : plainB i.op i.a i.b i.c i.imm = true) : parseP (lnT nm i) = some (.order (orderN nm i)) := by
  unfold lnT orderN
  by_cases hg : goesP i.op = true
  · rw [if_pos hg, if_pos hg]
    obtain ⟨oo, oa, ob, oc, imm⟩ := i
    obtain ⟨h0, h1, h2, h3⟩ := plain_facts hp
    simp only at h0 h1 h2 h3 hg hp
    obtain ⟨op, rfl⟩ : ∃ op : Nat, oo = (op : Int) := ⟨oo.toNat, by omega⟩
    obtain ⟨a, rfl⟩ : ∃ a : Nat, oa = (a : Int) := ⟨oa.toNat, by omega⟩
    obtain ⟨b, rfl⟩ : ∃ b : Nat, ob = (b : Int) := ⟨ob.toNat, by omega⟩
    obtain ⟨c, rfl⟩ : ∃ c : Nat, oc = (c : Int) := ⟨oc.toNat, by omega⟩
    have hop : op = 17 ∨ op = 18 ∨ op = 19 := by
      unfold goesP at hg
      simp only [Bool.or_eq_true, decide_eq_true_eq] at hg
      omega
    rw [parse_cls (op := op) (by omega) (lineN_cls hn _ h1 h2 h3), takes_lineN op hop a b c imm (by omega) hp]
  · rw [if_neg hg, if_neg hg, parse_line hp]
    unfold orderOf
    rw [if_neg hg]
theorem lnT_ne (nm : Nat → ByteArray) (i : Ins) : lnT nm i ≠ [] := by
  unfold lnT
  split
  · exact lineN_ne nm i
  · exact line_ne i
theorem read_tx {nm : Nat → ByteArray} (hn : NameOk nm) (at_ : Nat) : ∀ (l : List Ins) (p : Prg) (k : Nat), k + l.length ≤ 90 → (∀ i ∈ l, plainB i.op i.a i.b i.c i.imm = true) → LabN nm at_ p k → p.orders.length = k →
    ∃ p', readGo (txT nm at_ l k) p = (p', 0, 0) ∧ LabN nm at_ p' (k + l.length + 1) ∧ p'.orders = p.orders ++ l.map (orderN nm)
  | [], p, k, hk, hp, hl, ho => by
    obtain ⟨p', h1, h2, h3⟩ := read_hd hn at_ (by simp at hk; omega) hl ho
    exact ⟨p', h1, h2, by rw [h3]; simp⟩
  | i :: r, p, k, hk, hp, hl, ho => by
    rw [List.length_cons] at hk
    obtain ⟨p', h1, h2, h3⟩ := read_hd hn at_ (by omega) hl ho
    have hpi := parse_lnT hn (hp i (by simp))
    have ha : addP p' (.order (orderN nm i)) = (⟨p'.orders ++ [orderN nm i], p'.labels⟩, 0) := by
      unfold addP; simp only; rw [if_neg (by rw [h3, ho]; omega)]
    have hr1 : readGo [lnT nm i] p' = (⟨p'.orders ++ [orderN nm i], p'.labels⟩, 0, 0) := by
      rw [readGo, if_neg (lnT_ne nm i), hpi]
      simp only
      rw [ha]
      rfl
    have hl2 : LabN nm at_ ⟨p'.orders ++ [orderN nm i], p'.labels⟩ (k + 1) := ⟨h2.nm_, h2.no⟩
    obtain ⟨p2, g1, g2, g3⟩ := read_tx hn at_ r ⟨p'.orders ++ [orderN nm i], p'.labels⟩ (k + 1) (by omega) (fun j hj => hp j (by simp [hj])) hl2 (by simp [h3, ho])
    refine ⟨p2, ?_, ?_, ?_⟩
    · rw [txT, List.append_assoc, readGo_app _ _ _ (by rw [h1]), h1]
      simp only
      rw [readGo_app _ _ _ (by rw [hr1]), hr1]
      exact g1
    · rw [show k + (i :: r).length + 1 = k + 1 + r.length + 1 by simp; omega]; exact g2
    · rw [g3, h3]; simp
theorem code_tx {nm : Nat → ByteArray} (hn : NameOk nm) (at_ : Nat) (p : Prg) (n : Nat) (hn9 : n ≤ 90) (hl : LabN nm at_ p (n + 1)) : ∀ (l : List Ins) (k : Nat) (out : List Ins), (∀ i ∈ l, 0 ≤ i.imm) → fitsGo n l k = true →
    codeGo p (l.map (orderN nm)) k out = (out ++ l, 0, 0)
  | [], k, out, _, _ => by rw [List.map_nil, codeGo, List.append_nil]
  | i :: r, k, out, h0, hf => by
    rw [fitsGo, Bool.and_eq_true] at hf
    have ih := fun out => code_tx hn at_ p n hn9 hl r (k + 1) out (fun j hj => h0 j (by simp [hj])) hf.2
    rw [List.map_cons, codeGo]
    cases hg : goesP i.op
    · have ho : orderN nm i = ⟨i, ⟨#[]⟩, 0⟩ := by unfold orderN; rw [hg]; rfl
      rw [ho, if_pos rfl, ih]
      simp
    · have ho : orderN nm i = ⟨{ i with imm := 0 }, nm i.imm.toNat, 0⟩ := by unfold orderN; rw [hg]; rfl
      have hj := hf.1
      unfold jumpOk at hj
      rw [hg] at hj
      simp only [Bool.not_true, Bool.false_or, Bool.and_eq_true, decide_eq_true_eq] at hj
      have hi0 := h0 i (by simp)
      have hfd := hl.nm_ i.imm.toNat (by omega)
      have hcast : ((i.imm.toNat : Nat) : Int) = i.imm := by omega
      rw [if_pos (by omega)] at hfd
      rw [ho, if_neg (hn.empty _)]
      simp only
      rw [hfd]
      simp only
      rw [hcast, if_pos hj.2, ih]
      simp
theorem hdB_le {nm : Nat → ByteArray} (hn : NameOk nm) (at_ k : Nat) : (hdB nm at_ k).length ≤ 60 := by
  unfold hdB
  have h := form_text (hn.form k)
  have e : tokText ⟨0, nm k, 0, 0, 0⟩ = (nm k).data.toList := rfl
  rw [e] at h
  have e2 : nobodyS.data.toList.length = 11 := rfl
  simp only [List.length_append, List.length_cons, List.length_nil]
  split
  · simp only [List.length_append, List.length_cons, List.length_nil]; omega
  · simp only [List.length_nil]; omega
theorem lnB_le {nm : Nat → ByteArray} (hn : NameOk nm) {i : Ins} (hp : plainB i.op i.a i.b i.c i.imm = true) (hm : 0 ≤ i.imm ∧ i.imm ≤ 18446744073709551615) : (lnB nm i).length ≤ 200 := by
  unfold lnB
  split
  · have h1 := printGo_le 24 (lineN nm i) true (fun t ht => form_text (lineN_form hn hp hm t ht).1)
    have h2 : (lineN nm i).length ≤ 7 := by unfold lineN; rw [List.length_map]; exact form_le _
    unfold printP
    rw [List.length_append]
    simp
    omega
  · have := lineB_le hm; omega
theorem txB_le {nm : Nat → ByteArray} (hn : NameOk nm) (at_ : Nat) : ∀ (l : List Ins) (k : Nat), (∀ i ∈ l, plainB i.op i.a i.b i.c i.imm = true) → (∀ i ∈ l, 0 ≤ i.imm ∧ i.imm ≤ 18446744073709551615) → (txB nm at_ l k).length ≤ 260 * (l.length + 1)
  | [], k, _, _ => by have := hdB_le hn at_ k; rw [txB]; simp; omega
  | i :: r, k, hp, hm => by
    have ih := txB_le hn at_ r (k + 1) (fun j hj => hp j (by simp [hj])) (fun j hj => hm j (by simp [hj]))
    have h1 := lnB_le hn (hp i (by simp)) (hm i (by simp))
    have h2 := hdB_le hn at_ k
    rw [txB]
    simp only [List.length_append, List.length_cons]
    omega
/-- A program's text with other names for its labels is read as the program. -/
theorem asm_tx {nm : Nat → ByteArray} (hn : NameOk nm) (at_ : Nat) {code : List Ins} (h40 : code.length ≤ 40) (hf : fitsP code = true) (hm : ∀ i ∈ code, 0 ≤ i.imm ∧ i.imm ≤ 18446744073709551615) :
    (txB nm at_ code 0).length ≤ 20000 ∧ ∃ a, asmP ⟨(txB nm at_ code 0).toArray⟩ = (code, a, 0) := by
  have hf' := hf
  unfold fitsP at hf'
  simp only [Bool.and_eq_true, decide_eq_true_eq] at hf'
  obtain ⟨⟨_, h2⟩, h3⟩ := hf'
  have hp : ∀ i ∈ code, plainB i.op i.a i.b i.c i.imm = true := fun i hi => List.all_eq_true.1 h2 i hi
  have hle := txB_le hn at_ code 0 hp hm
  have hle2 : (txB nm at_ code 0).length ≤ 20000 := by omega
  refine ⟨hle2, ?_⟩
  have hs := seg_tx hn at_ code 0 hp hm
  have hT : ∀ x ∈ txT nm at_ code 0, x.length ≤ 7 ∧ ∀ t ∈ x, t.kind ≠ 3 := by
    intro x hx
    rcases tx_mem hx with ⟨s, rfl⟩ | ⟨i, hi, rfl⟩
    · exact ⟨by simp [markT], mark_no3 s⟩
    · unfold lnT
      split
      · exact ⟨by unfold lineN; rw [List.length_map]; exact form_le _, fun t ht => (lineN_form hn (hp i hi) (hm i hi) t ht).2⟩
      · exact ⟨line_len i, fun t ht => (line_form (hp i hi) (hm i hi) t ht).2⟩
  have ht := toks_le 7 _ (fun x hx => (hT x hx).1)
  have htl := tx_len nm at_ code 0
  have ha := asm_seg hs (by omega) (by omega)
  rw [lines_toks _ (fun x hx => (hT x hx).2)] at ha
  obtain ⟨p', g1, g2, g3⟩ := read_tx hn at_ code ⟨[], []⟩ 0 (by omega) hp ⟨fun j _ => by rw [if_neg (by omega)]; rfl, fun _ => rfl⟩ rfl
  rw [Nat.zero_add] at g2
  have hc := code_tx hn at_ p' code.length (by omega) g2 code 0 [] (fun i hi => (hm i hi).1) h3
  unfold asmL at ha
  rw [g1] at ha
  simp only [ne_eq, not_true_eq_false, if_false] at ha
  rw [g3, show (⟨[], []⟩ : Prg).orders ++ code.map (orderN nm) = code.map (orderN nm) from rfl, hc] at ha
  generalize asmP ⟨(txB nm at_ code 0).toArray⟩ = R at ha
  obtain ⟨x, y, z⟩ := R
  injection ha with e1 e2
  exact ⟨y, by rw [show x = code from e1, show z = 0 from e2]⟩
end Go.Proofs.YthdlihiehfkceaaDoor

namespace Go.Proofs.YthdlihiehfkceaaDoor
open Go.RowKit
set_option linter.unusedVariables false

set_option maxRecDepth 100000 in
set_option maxHeartbeats 4000000 in
theorem nmk_any (a b k : Nat) (ha : a ≤ 255) (hb : b ≤ 255) (hk : k ≤ 1000) (ba bb : Nat) (w : World) (ca : w.cell? ⟨ba, 0, none⟩ = some (.int .u8 a)) (cb : w.cell? ⟨bb, 0, none⟩ = some (.int .u8 b)) :
    Calls Tryd.prog 16 #[.int .i64 k, .pointer (some ⟨ba, 0, none⟩), .pointer (some ⟨bb, 0, none⟩)] w fun e w' => e = .returned (.string (nameP a b k)) ∧ Below w.heap.size w w' := by
  have hcv : ∀ x y z u : Int, (convert 31 9 (.slice (some ⟨w.heap.size, 0, none⟩) 4 4)).run Tryd.prog (w.alloc (.cells #[.int .u8 x, .int .u8 y, .int .u8 z, .int .u8 u] 5)) = .ok (.string (strOfNums [x, y, z, u])) (w.alloc (.cells #[.int .u8 x, .int .u8 y, .int .u8 z, .int .u8 u] 5)) := fun x y z u =>
    conv_str (P := Tryd.prog) (c := 4) (l := [x, y, z, u]) 31 9 5 Tryd.underlying31 Tryd.underlying5 Tryd.underlying9 (Rd.new w #[.int .u8 x, .int .u8 y, .int .u8 z, .int .u8 u] 5 rfl (by simp [maxLen]))
  have hsl : ∀ x y z u : Int, (strOfNums [x, y, z, u]).size = 4 := fun x y z u => strOfNums_size _
  go_enter Tryd.func16, Tryd.ntmps16
  go_wp2
  go_ret
  refine ⟨congrArg Ending.returned (congrArg Value.string (ByteArray.ext (Array.toList_inj.1 ?_))), (Below.refl _ _).alloc (Nat.le_refl _) _⟩
  rw [name_list, ByteArray.data_append, Array.toList_append, strOfNums_data]
  have e1 : (97 + (a : Int) % 26).toNat = 97 + a % 26 := by omega
  have e2 : (97 + (b : Int) % 26).toNat = 97 + b % 26 := by omega
  have e3 : (48 + (k : Int) / 10 % 10).toNat = 48 + k / 10 % 10 := by omega
  have e4 : (48 + (k : Int) % 10).toNat = 48 + k % 10 := by omega
  simp only [List.map_cons, List.map_nil, e1, e2, e3, e4]
  rfl
/-- A register's number, as the law writes it. -/
def digS (n : Nat) : ByteArray := if n < 10 then ⟨#[UInt8.ofNat (48 + n)]⟩ else ⟨#[49, UInt8.ofNat (38 + n)]⟩
theorem digS_reg (n : Nat) : (regName n).data.toList = 114 :: (digS n).data.toList := by
  unfold regName digS
  split <;> rfl
theorem digS_le (n : Nat) : (digS n).size ≤ 2 := by
  unfold digS
  split
  · exact (show 1 ≤ 2 by omega)
  · exact (show 2 ≤ 2 by omega)
theorem and15n : ∀ n : Fin 16, bits .and .i64 ((n.val : Nat) : Int) 15 = ((n.val : Nat) : Int) := by decide +kernel

set_option maxRecDepth 100000 in
set_option maxHeartbeats 4000000 in
theorem ldig_any (n : Nat) (hn : n < 16) (w : World) :
    Calls Tryd.prog 17 #[.int .i64 n] w fun e w' => e = .returned (.string (digS n)) ∧ Below w.heap.size w w' := by
  have hcv : ∀ x : Int, (convert 31 9 (.slice (some ⟨w.heap.size, 0, none⟩) 1 1)).run Tryd.prog (w.alloc (.cells #[.int .u8 x] 5)) = .ok (.string (strOfNums [x])) (w.alloc (.cells #[.int .u8 x] 5)) := fun x =>
    conv_str (P := Tryd.prog) (c := 1) (l := [x]) 31 9 5 Tryd.underlying31 Tryd.underlying5 Tryd.underlying9 (Rd.new w #[.int .u8 x] 5 rfl (by simp [maxLen]))
  have hcv2 : ∀ x y : Int, (convert 31 9 (.slice (some ⟨w.heap.size, 0, none⟩) 2 2)).run Tryd.prog (w.alloc (.cells #[.int .u8 x, .int .u8 y] 5)) = .ok (.string (strOfNums [x, y])) (w.alloc (.cells #[.int .u8 x, .int .u8 y] 5)) := fun x y =>
    conv_str (P := Tryd.prog) (c := 2) (l := [x, y]) 31 9 5 Tryd.underlying31 Tryd.underlying5 Tryd.underlying9 (Rd.new w #[.int .u8 x, .int .u8 y] 5 rfl (by simp [maxLen]))
  have h15 := and15n ⟨n, hn⟩
  simp only at h15
  go_enter Tryd.func17, Tryd.ntmps17
  by_cases h9 : 9 < n
  · have g9 : (9 : Int) < (n : Int) := by omega
    go_wp2
    go_ret
    refine ⟨congrArg Ending.returned (congrArg Value.string (ByteArray.ext (Array.toList_inj.1 ?_))), (Below.refl _ _).alloc (Nat.le_refl _) _⟩
    rw [strOfNums_data]
    unfold digS
    rw [if_neg (by omega)]
    have e1 : (48 + (n : Int) / 10 % 10).toNat = 49 := by omega
    have e2 : (48 + (n : Int) % 10).toNat = 38 + n := by omega
    simp only [List.map_cons, List.map_nil, e1, e2]
    rfl
  · have g9 : ¬ (9 : Int) < (n : Int) := by omega
    go_wp2
    go_ret
    refine ⟨congrArg Ending.returned (congrArg Value.string (ByteArray.ext (Array.toList_inj.1 ?_))), (Below.refl _ _).alloc (Nat.le_refl _) _⟩
    rw [strOfNums_data]
    unfold digS
    rw [if_pos (by omega)]
    have e1 : (48 + (n : Int)).toNat = 48 + n := by omega
    simp only [List.map_cons, List.map_nil, e1]
end Go.Proofs.YthdlihiehfkceaaDoor
