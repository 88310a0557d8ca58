/-
  Chapter 2: contract of glyph.Lex.
-/
import Derived.Test.YthklmcpjlpaklaaDoorGlyE
namespace Go.Proofs.YthklmcpjlpaklaaDoor
open Go.RowKit
set_option linter.unusedVariables false

/-- What holds of the reader at a place of the text. -/
structure LInv (s : ByteArray) (pos : Nat) (st : LSt) : Prop where
  len : st.list.length ≤ 16384
  line : st.line ≤ pos
  from_ : ∀ a, st.from_ = some a → a < pos ∧ a < s.size
theorem runeP_inv {s : ByteArray} {pos c k : Nat} {st : LSt} (h : LInv s pos st) (hp : pos < s.size) (hk : 1 ≤ k) : LInv s (pos + k) (runeP s pos c st).2.2 := by
  by_cases hin : inRun c st = true ∧ st.remark = false
  · rw [runeP_in hin.1 hin.2]
    simp only
    split
    · exact ⟨h.len, by have := h.line; omega, fun a ha => by have := h.from_ a ha; omega⟩
    · refine ⟨h.len, by have := h.line; show st.line ≤ _; omega, fun a ha => ?_⟩
      have : pos = a := by simpa using ha
      omega
  · have hout : inRun c st = false ∨ st.remark = true := by
      cases h1 : inRun c st <;> cases h2 : st.remark <;> simp_all
    obtain ⟨q1, q2, q3, q4⟩ := shutP_kept (s := s) (z := pos) (st := st)
    have q4 := q4 h.len
    obtain ⟨p, hp'⟩ : ∃ p, (shutP s pos st).1 = p := ⟨_, rfl⟩
    obtain ⟨ec, hec⟩ : ∃ ec, (shutP s pos st).2.1 = ec := ⟨_, rfl⟩
    obtain ⟨st1, hst1⟩ : ∃ st1, (shutP s pos st).2.2 = st1 := ⟨_, rfl⟩
    rw [runeP_out hout (Prod.ext_iff.2 ⟨hp', Prod.ext_iff.2 ⟨hec, hst1⟩⟩ : shutP s pos st = (p, ec, st1))]
    rw [hst1] at q1 q2 q3 q4
    have hl := h.line
    have base : ∀ x : LSt, x.list.length ≤ 16384 → x.line ≤ pos + 1 → x.from_ = none → LInv s (pos + k) x := fun x h1 h2 h3 => ⟨h1, by omega, fun a ha => by rw [h3] at ha; cases ha⟩
    split
    · exact base st1 q4 (by omega) q3
    · split
      · exact base _ (putP_len _ q4) (by show (putP _ _).2.line + 1 ≤ _; rw [putP_line]; show st1.line + 1 ≤ _; omega) (by show (putP _ _).2.from_ = none; rw [putP_from]; exact q3)
      · split
        · exact base st1 q4 (by omega) q3
        · split
          · exact base { st1 with remark := true } q4 (by show st1.line ≤ _; omega) q3
          · split
            · exact base _ (putP_len _ q4) (by rw [putP_line]; omega) (by rw [putP_from]; exact q3)
            · exact base st1 q4 (by omega) q3
theorem own_iterAt {w : World} {base : Nat} {e : TypeId} {size n : Nat} {v : Value} {xs : List Value} {k : Nat} {s : ByteArray} {pos : Nat} (h : w.ownsRow base e size v n xs) (hk : w.heap[k]? = some (.stringIter s pos)) (p' : Nat) : (w.iterAt k s p').ownsRow base e size v n xs := by
  refine ⟨h.1, ?_⟩
  rcases h.2 with h0 | ⟨g, cap, cur, hv, hb, hg, rest⟩
  · exact .inl h0
  · refine .inr ⟨g, cap, cur, hv, hb, ?_, rest⟩
    rw [Lib.iterAt_other]
    · exact hg
    · rintro rfl
      rw [hk] at hg
      cases hg
theorem Bk.iterAt {w : World} {g k : Nat} {t : TypeId} {cs : Array Value} {s : ByteArray} (h : Bk w g t cs) (hk : g ≠ k) (p' : Nat) : Bk (w.iterAt k s p') g t cs := by
  unfold Bk at h ⊢
  rw [Lib.iterAt_other _ _ _ _ _ hk]; exact h
theorem Rdr.iterAt {w : World} {g k : Nat} {s : ByteArray} {st : LSt} {pos : Nat} (h : Rdr w g s st) (hk : w.heap[k]? = some (.stringIter s pos)) (hg : g ≠ k) (p' : Nat) : Rdr (w.iterAt k s p') g s st := by
  obtain ⟨v, h1, h2⟩ := h
  exact ⟨v, h1.iterAt hg p', own_iterAt h2 hk p'⟩
theorem lexGo_step {s : ByteArray} {f pos c k : Nat} {st st2 : LSt} {p e : Int} (hp : pos < s.size) (hd : Utf8.decode s pos = (c, k)) (hr : runeP s pos c st = (p, e, st2)) :
    lexGo s (f + 1) pos st = if e ≠ 0 then ([], p, e) else lexGo s f (pos + k) st2 := by
  rw [lexGo, if_pos hp, hd, hr]
theorem lexGo_end {s : ByteArray} {f pos : Nat} {st st2 : LSt} {p e : Int} (hp : ¬ pos < s.size) (hr : shutP s s.size st = (p, e, st2)) :
    lexGo s (f + 1) pos st = if e ≠ 0 then ([], p, e) else (st2.list, 0, 0) := by
  rw [lexGo, if_neg hp, hr]
def st0 : LSt := { list := [], line := 0, from_ := none, remark := false }
theorem width_pos (s : ByteArray) (pos : Nat) (h : pos < s.size) : 1 ≤ (Utf8.decode s pos).2 := by
  by_cases ha : (s[pos]'h).toNat < 128
  · rw [decode_ascii s pos h ha]
    exact Nat.le_refl _
  · exact (decode_high s pos h (by omega)).2

def LexPost (s : ByteArray) (w : World) (e : Ending) (w' : World) : Prop :=
  ∃ v, e = .returned (.tuple #[v, .int .i64 (lexP s).2.1, .int .i64 (lexP s).2.2]) ∧ w'.ownsRow w.heap.size 74 5 v (lexP s).1.length (tokCells (lexP s).1) ∧ Below w.heap.size w w'
theorem LexPost.bad {s : ByteArray} {w w' : World} {p e : Int} (h : lexP s = ([], p, e)) (hb : Below w.heap.size w w') : LexPost s w (.returned (.tuple #[.slice none 0 0, .int .i64 p, .int .i64 e])) w' := by
  refine ⟨.slice none 0 0, by rw [h], ?_, hb⟩
  rw [h]
  exact World.ownsRow_nil _ _ _ _
theorem LexPost.good {s : ByteArray} {w w' : World} {l : List Tok} {v : Value} (h : lexP s = (l, 0, 0)) (ho : w'.ownsRow w.heap.size 74 5 v l.length (tokCells l)) (hb : Below w.heap.size w w') : LexPost s w (.returned (.tuple #[v, .int .i64 0, .int .i64 0])) w' := by
  refine ⟨v, by rw [h], ?_, hb⟩
  rw [h]
  exact ho

set_option maxRecDepth 100000 in
set_option maxHeartbeats 4000000 in
theorem lex_any (s : ByteArray) (w : World) (hs63 : s.size ≤ maxLen) : Calls Tryd.prog 16 #[.string s] w (LexPost s w) := by
  unfold maxLen at hs63
  by_cases hs : 65536 < s.size
  · have HE : Hid (lexP s = ([], 0, 2)) := by show _ = _; rw [lexP, if_pos hs]
    go_enter Tryd.func16, Tryd.ntmps16
    go_wp2
    go_ret3
    exact .bad HE.out (Below.refl _ _)
  · have hs' : s.size ≤ 65536 := by omega
    obtain ⟨R, hR⟩ : ∃ R, lexGo s (s.size + 1) 0 st0 = R := ⟨_, rfl⟩
    have HE : Hid (lexP s = R) := by show _ = _; rw [lexP, if_neg hs]; exact hR
    have HR0 := Lib.hid hR
    clear hR
    go_enter Tryd.func16, Tryd.ntmps16
    go_wp2
    go_loopw [6, 7, 8, 9] (fun _u1 _u2 _u3 _u4 wr => ∃ (pos f : Nat) (st : LSt), (s.size < pos + f ∧ 0 < f) ∧ Hid (lexGo s f pos st = R) ∧ Hid (LInv s pos st) ∧ Rdr wr w.heap.size s st ∧ wr.heap[w.heap.size + 1]? = some (.stringIter s pos) ∧ Below w.heap.size w wr) (fun _ _ _ _ wr => s.size - wr.iterPos (w.heap.size + 1))
    case atStart =>
      refine ⟨0, s.size + 1, st0, ⟨by omega, by omega⟩, HR0, ⟨by simp [st0], by simp [st0], fun a ha => by simp [st0] at ha⟩, ?_, ?_, ((Below.refl _ _).alloc (Nat.le_refl _) _).alloc (by simp) _⟩
      · exact ⟨.slice none 0 0, (Bk.new w _ _).alloc _, World.ownsRow_nil _ _ _ _⟩
      · have := World.iter_heap (w.alloc (.cells #[.string s, .slice none 0 0, .int .i64 0, .int .i64 (-1), .bool false] 92)) s 0
        simpa using this
    case round =>
      obtain ⟨pos, f, st, hf, HG, HI, hr, hit, hb⟩ := hrel
      have HB := Lib.hid hb
      have HR := Lib.hid hr
      have HIt := Lib.hid hit
      have hsz : w.heap.size + 1 < wr.heap.size := (Array.getElem?_eq_some_iff.1 hit).1
      clear hb hr hit
      by_cases hp : pos < s.size
      · rcases f with _ | f
        · omega
        have hnx : ∀ ty, (Instr.next (.pointer (some ⟨w.heap.size + 1, 0, none⟩)) true ty).run Tryd.prog wr = _ := fun ty => Lib.run_next_any_at wr (w.heap.size + 1) s pos ty HIt.out hp
        have hwd := width_pos s pos hp
        have hd1 := decode_le s pos
        obtain ⟨c, hcc⟩ : ∃ c, (Utf8.decode s pos).1 = c := ⟨_, rfl⟩
        obtain ⟨k, hkk⟩ : ∃ k, (Utf8.decode s pos).2 = k := ⟨_, rfl⟩
        rw [hcc, hkk] at hnx
        rw [hcc] at hd1
        rw [hkk] at hwd
        have hdec : Utf8.decode s pos = (c, k) := Prod.ext_iff.2 ⟨hcc, hkk⟩
        have HIt2 := Lib.hid (Lib.iterAt_heap wr (w.heap.size + 1) s pos (pos + k) HIt.out)
        have HR2 := Lib.hid (HR.out.iterAt HIt.out (by omega) (pos + k))
        have HB2 := Lib.hid (Lib.below_iterAt HB.out (k := w.heap.size + 1) (by omega) s (pos + k))
        have HI2 := Lib.hid (runeP_inv (c := c) HI.out hp hwd)
        obtain ⟨p, hp'⟩ : ∃ p, (runeP s pos c st).1 = p := ⟨_, rfl⟩
        obtain ⟨ec, hec⟩ : ∃ ec, (runeP s pos c st).2.1 = ec := ⟨_, rfl⟩
        obtain ⟨st2, hst2⟩ : ∃ st2, (runeP s pos c st).2.2 = st2 := ⟨_, rfl⟩
        have hE : runeP s pos c st = (p, ec, st2) := Prod.ext_iff.2 ⟨hp', Prod.ext_iff.2 ⟨hec, hst2⟩⟩
        have hG := lexGo_step (f := f) hp hdec hE
        rw [HG.out] at hG
        rw [hE] at HI2
        have HEr := Lib.hid hE
        have HG2 := Lib.hid hG
        have HP := Lib.hid hp
        have HF := Lib.hid hf
        have HW := Lib.hid hwd
        clear hp' hec hst2 hE hG hf hdec hcc hkk
        go_wp2_with fail
        refine (rune_any w.heap.size s pos c st _ HR2.out HI.out.len hs' (by omega) (fun a ha => (HI.out.from_ a ha).1) (by have := HI.out.line; omega) hd1).mono ?_
        rintro e w1 ⟨rfl, hr1, hf1⟩
        rw [HEr.out] at hr1 ⊢
        have HR3 := Lib.hid hr1
        have HIt3 : Hid (w1.heap[w.heap.size + 1]? = some (.stringIter s (pos + k))) := hf1.kept (w.heap.size + 1) _ HIt2.out (by simp) (fun c fz => by simp)
        have HB3 := Lib.hid (HB2.out.trans hf1.below)
        clear hr1 hf1
        by_cases he : ec = 0
        · subst he
          have HG3 : Hid (lexGo s f (pos + k) st2 = R) := by
            show _ = _
            have := HG2.out
            rw [if_neg (by simp)] at this
            exact this.symm
          go_wp2
          go_roundw
          case rel => exact ⟨pos + k, f, st2, ⟨by have := HF.out; have := HW.out; omega, by have := HF.out; have := HP.out; omega⟩, HG3, HI2, HR3.out, HIt3.out, HB3.out⟩
          case measure =>
            have := HP.out
            have := HW.out
            simp only [World.iterPos, HIt3.out, HIt.out]
            omega
        · have hne : (ec == 0) = false := by simpa using he
          have HG3 : Hid (lexP s = ([], p, ec)) := by
            show _ = _
            have := HG2.out
            rw [if_pos he] at this
            rw [HE.out, this]
          go_wp2
          go_ret3
          exact .bad HG3.out HB3.out
      · have hnx : ∀ ty, (Instr.next (.pointer (some ⟨w.heap.size + 1, 0, none⟩)) true ty).run Tryd.prog wr = _ := fun ty => Lib.run_next_end_at wr (w.heap.size + 1) s pos ty HIt.out hp
        rcases f with _ | f
        · omega
        obtain ⟨p, hp'⟩ : ∃ p, (shutP s s.size st).1 = p := ⟨_, rfl⟩
        obtain ⟨ec, hec⟩ : ∃ ec, (shutP s s.size st).2.1 = ec := ⟨_, rfl⟩
        obtain ⟨st2, hst2⟩ : ∃ st2, (shutP s s.size st).2.2 = st2 := ⟨_, rfl⟩
        have hE : shutP s s.size st = (p, ec, st2) := Prod.ext_iff.2 ⟨hp', Prod.ext_iff.2 ⟨hec, hst2⟩⟩
        have hG := lexGo_end (f := f) hp hE
        rw [HG.out] at hG
        have HEr := Lib.hid hE
        have HG2 := Lib.hid hG
        clear hp' hec hst2 hE hG hf
        go_wp2_with fail
        refine (shut_any w.heap.size s s.size st _ HR.out HI.out.len hs' (Nat.le_refl _) (fun a ha => (HI.out.from_ a ha).2)).mono ?_
        rintro e w1 ⟨rfl, hr1, hf1⟩
        rw [HEr.out] at hr1 ⊢
        have HB3 := Lib.hid (HB.out.trans hf1.below)
        obtain ⟨A, cc, _, _, k1, _, _, _, _, _, ho⟩ := hr1.cells
        have hg1 := hr1.lt
        have HO := Lib.hid (own_base (base' := w.heap.size) ho (by omega))
        clear hr1 hf1 ho
        by_cases he : ec = 0
        · subst he
          have HG3 : Hid (lexP s = (st2.list, 0, 0)) := by
            show _ = _
            have := HG2.out
            rw [if_neg (by simp)] at this
            rw [HE.out, this]
          go_wp2
          go_ret3
          exact .good HG3.out HO.out HB3.out
        · have hne : (ec == 0) = false := by simpa using he
          have HG3 : Hid (lexP s = ([], p, ec)) := by
            show _ = _
            have := HG2.out
            rw [if_pos he] at this
            rw [HE.out, this]
          go_wp2
          go_ret3
          exact .bad HG3.out HB3.out
end Go.Proofs.YthklmcpjlpaklaaDoor
