/-
  Texts of one proof, joined (wip/gen/pack.py): GlyE, GlyF, AsmC, AsmD.
-/
import Derived.Test.YthdlihiehfkceaaDoorPtAB
import Derived.Laws.ResultCell
namespace Go.Proofs.YthdlihiehfkceaaDoor
open Go.RowKit
set_option linter.unusedVariables false

theorem letter_is {c : Nat} {b : Bool} (w : World) (h : isLetter c = b) : Calls Tryd.prog 70 #[.int .i32 c] w fun e w' => e = .returned (.bool b) ∧ w = w' := by
  subst h; exact letter_any c w
/-- Whether a rune stands within a run, or begins one. -/
def inRun (c : Nat) (st : LSt) : Bool := isLetter c || isDigit c || (c == 46 && st.from_.isSome)
theorem runeP_in {s : ByteArray} {at_ c : Nat} {st : LSt} (h : inRun c st = true) (hr : st.remark = false) : runeP s at_ c st = (0, 0, if st.from_.isSome then st else { st with from_ := some at_ }) := by
  have e : ((isLetter c || isDigit c || (c == 46 && st.from_.isSome)) && !st.remark) = true := by
    rw [hr]; simpa [inRun] using h
  rw [runeP, if_pos e]
theorem runeP_out {s : ByteArray} {at_ c : Nat} {st st1 : LSt} {p e : Int} (h : inRun c st = false ∨ st.remark = true) (hs : shutP s at_ st = (p, e, st1)) : runeP s at_ c st =
    (if e ≠ 0 then (p, e, st1)
      else if c = 10 then ((at_ : Int), (putP { st1 with remark := false } { kind := 3, text := ⟨#[]⟩, num := 0, at_ := at_, line := 0 }).1, { (putP { st1 with remark := false } { kind := 3, text := ⟨#[]⟩, num := 0, at_ := at_, line := 0 }).2 with line := (putP { st1 with remark := false } { kind := 3, text := ⟨#[]⟩, num := 0, at_ := at_, line := 0 }).2.line + 1 })
      else if st1.remark ∨ c = 32 ∨ c = 9 ∨ c = 13 then (0, 0, st1)
      else if c = 35 then (0, 0, { st1 with remark := true })
      else if isSign c then ((at_ : Int), putP st1 { kind := 2, text := Utf8.encode (c : Int), num := 0, at_ := at_, line := 0 })
      else ((at_ : Int), 20, st1)) := by
  have e' : ¬ ((isLetter c || isDigit c || (c == 46 && st.from_.isSome)) && !st.remark) = true := by
    rcases h with h | h
    · have : (isLetter c || isDigit c || (c == 46 && st.from_.isSome)) = false := h
      rw [this]; simp
    · rw [h]; simp
  rw [runeP, if_neg e', hs]
theorem putP_line (st : LSt) (t : Tok) : (putP st t).2.line = st.line := by unfold putP; split <;> rfl
theorem putP_remark (st : LSt) (t : Tok) : (putP st t).2.remark = st.remark := by unfold putP; split <;> rfl
theorem putP_from (st : LSt) (t : Tok) : (putP st t).2.from_ = st.from_ := by unfold putP; split <;> rfl
theorem putP_len {st : LSt} (t : Tok) (h : st.list.length ≤ 16384) : (putP st t).2.list.length ≤ 16384 := by
  unfold putP
  split
  · exact h
  · simp; omega
theorem shutP_kept {s : ByteArray} {z : Nat} {st : LSt} : (shutP s z st).2.2.line = st.line ∧ (shutP s z st).2.2.remark = st.remark ∧ (shutP s z st).2.2.from_ = none ∧ (st.list.length ≤ 16384 → (shutP s z st).2.2.list.length ≤ 16384) := by
  cases hf : st.from_ with
  | none => rw [shutP, hf]; exact ⟨rfl, rfl, hf, fun h => h⟩
  | some a =>
    rw [shutP_some hf rfl]
    split
    · split
      · exact ⟨rfl, rfl, rfl, fun h => h⟩
      · exact ⟨putP_line _ _, putP_remark _ _, putP_from _ _, fun h => putP_len _ h⟩
    · split
      · exact ⟨rfl, rfl, rfl, fun h => h⟩
      · exact ⟨putP_line _ _, putP_remark _ _, putP_from _ _, fun h => putP_len _ h⟩

def RunePost (g : Nat) (s : ByteArray) (at_ c : Nat) (st : LSt) (w : World) (e : Ending) (w' : World) : Prop :=
  e = .returned (.tuple #[.int .i64 (runeP s at_ c st).1, .int .i64 (runeP s at_ c st).2.1]) ∧ Rdr w' g s (runeP s at_ c st).2.2 ∧ Frm g w w'
theorem RunePost.mk {g : Nat} {s : ByteArray} {at_ c : Nat} {st st' : LSt} {w w' : World} {p e : Int} (h : runeP s at_ c st = (p, e, st')) (hr : Rdr w' g s st') (hf : Frm g w w') :
    RunePost g s at_ c st w (.returned (.tuple #[.int .i64 p, .int .i64 e])) w' := by
  refine ⟨by rw [h], by rw [h]; exact hr, hf⟩

set_option maxRecDepth 100000 in
set_option maxHeartbeats 8000000 in
theorem rune_any (g : Nat) (s : ByteArray) (at_ c : Nat) (st : LSt) (w : World) (hR : Rdr w g s st) (hl : st.list.length ≤ 16384) (hs : s.size ≤ 65536) (hat : at_ ≤ s.size) (hfrom : ∀ a, st.from_ = some a → a < at_) (hline : st.line ≤ 65536) (hc : c ≤ 2147483647) :
    Calls Tryd.prog 53 #[.pointer (some ⟨g, 0, none⟩), .int .i64 (at_ : Int), .int .i32 (c : Int)] w (RunePost g s at_ c st w) := by
  have hg := hR.lt
  obtain ⟨A, cc, hcc, k0, k1, k2, k3, k4, kf, _, _⟩ := hR.cells
  have f3 := kf 3
  clear kf hcc
  have HR := Lib.hid hR
  obtain ⟨ir, hir⟩ : ∃ ir, inRun c st = ir := ⟨_, rfl⟩
  have HIR := Lib.hid hir
  have hfs : (st.fromI = -1 ∧ Hid (st.from_ = none)) ∨ (∃ a : Nat, st.fromI = (a : Int) ∧ Hid (st.from_ = some a)) := by
    cases hf : st.from_ with
    | none => exact .inl ⟨by rw [LSt.fromI, hf], rfl⟩
    | some a => exact .inr ⟨a, by rw [LSt.fromI, hf], rfl⟩
  have HFR := Lib.hid hfrom
  have HLn := Lib.hid hl
  obtain ⟨rm, hrm⟩ : ∃ rm, st.remark = rm := ⟨_, rfl⟩
  rw [hrm] at k4
  have HRM := Lib.hid hrm
  clear hR hfrom hl hrm hir
  obtain ⟨fI, hfI⟩ : ∃ fI, st.fromI = fI := ⟨_, rfl⟩
  rw [hfI] at k3
  rw [hfI] at hfs
  clear hfI
  go_enter Tryd.func53, Tryd.ntmps53
  go_upto_region 1 with fail
  go_cut [8] (fun s8 wx => s8 = .bool ir ∧ wx = w)
  case first =>
    cases hL : isLetter c
    · cases hD : isDigit c
      · by_cases h46 : c = 46
        · subst h46
          rcases hfs with ⟨rfl, HF⟩ | ⟨a, rfl, HF⟩
          · have HI : Hid (ir = false) := by show _ = _; rw [← HIR.out, inRun, hL, hD, HF.out]; rfl
            have H1 := Lib.hid hL
            have H2 := Lib.hid hD
            clear hL hD
            go_wp2_with (first | (go_at_call 70; refine (letter_is (c := 46) _ H1.out).mono ?_; rintro e w1 ⟨rfl, rfl⟩) | (go_at_call 71; refine (digit_is (c := 46) _ H2.out).mono ?_; rintro e w1 ⟨rfl, rfl⟩))
            go_meet
            exact ⟨by rw [HI.out], rfl⟩
          · have HI : Hid (ir = true) := by show _ = _; rw [← HIR.out, inRun, hL, hD, HF.out]; rfl
            have H1 := Lib.hid hL
            have H2 := Lib.hid hD
            clear hL hD
            go_wp2_with (first | (go_at_call 70; refine (letter_is (c := 46) _ H1.out).mono ?_; rintro e w1 ⟨rfl, rfl⟩) | (go_at_call 71; refine (digit_is (c := 46) _ H2.out).mono ?_; rintro e w1 ⟨rfl, rfl⟩))
            go_meet
            exact ⟨by rw [HI.out], rfl⟩
        · have HI : Hid (ir = false) := by
            show _ = _
            have : (c == 46) = false := by simpa using h46
            rw [← HIR.out, inRun, hL, hD, this]; rfl
          have hb46 : ((c : Int) == 46) = false := by simp; omega
          have H1 := Lib.hid hL
          have H2 := Lib.hid hD
          clear hL hD
          go_wp2_with (first | (go_at_call 70; refine (letter_is _ H1.out).mono ?_; rintro e w1 ⟨rfl, rfl⟩) | (go_at_call 71; refine (digit_is _ H2.out).mono ?_; rintro e w1 ⟨rfl, rfl⟩))
          go_meet
          exact ⟨by rw [HI.out], rfl⟩
      · have HI : Hid (ir = true) := by show _ = _; rw [← HIR.out, inRun, hL, hD]; rfl
        have H1 := Lib.hid hL
        have H2 := Lib.hid hD
        clear hL hD
        go_wp2_with (first | (go_at_call 70; refine (letter_is _ H1.out).mono ?_; rintro e w1 ⟨rfl, rfl⟩) | (go_at_call 71; refine (digit_is _ H2.out).mono ?_; rintro e w1 ⟨rfl, rfl⟩))
        go_meet
        exact ⟨by rw [HI.out], rfl⟩
    · have HI : Hid (ir = true) := by show _ = _; rw [← HIR.out, inRun, hL]; rfl
      have H1 := Lib.hid hL
      clear hL
      go_wp2_with (go_at_call 70; refine (letter_is _ H1.out).mono ?_; rintro e w1 ⟨rfl, rfl⟩)
      go_meet
      exact ⟨by rw [HI.out], rfl⟩
  case rest =>
    obtain ⟨rfl, rfl⟩ := hcut
    by_cases hin : ir = true ∧ rm = false
    · obtain ⟨rfl, rfl⟩ := hin
      have HE := Lib.hid (runeP_in (s := s) (at_ := at_) HIR.out HRM.out)
      rcases hfs with ⟨rfl, HF⟩ | ⟨a, rfl, HF⟩
      · have HE2 : Hid (runeP s at_ c st = (0, 0, { st with from_ := some at_ })) := by show _ = _; rw [HE.out, HF.out]; rfl
        go_wp2
        go_ret2
        exact .mk HE2.out (HR.out.from (some at_)) ((Frm.refl _ _).setCell 3 _)
      · have HE2 : Hid (runeP s at_ c st = (0, 0, st)) := by show _ = _; rw [HE.out, HF.out]; rfl
        go_wp2
        go_ret2
        exact .mk HE2.out HR.out (Frm.refl _ _)
    · have hout : Hid (inRun c st = false ∨ st.remark = true) := by
        show _ ∨ _
        rw [HIR.out, HRM.out]
        cases ir <;> cases rm <;> simp_all
      obtain ⟨p, hp⟩ : ∃ p, (shutP s at_ st).1 = p := ⟨_, rfl⟩
      obtain ⟨ec, hec⟩ : ∃ ec, (shutP s at_ st).2.1 = ec := ⟨_, rfl⟩
      obtain ⟨st1, hst1⟩ : ∃ st1, (shutP s at_ st).2.2 = st1 := ⟨_, rfl⟩
      have HE := Lib.hid (runeP_out hout.out (Prod.ext_iff.2 ⟨hp, Prod.ext_iff.2 ⟨hec, hst1⟩⟩ : shutP s at_ st = (p, ec, st1)))
      obtain ⟨q1, q2, q3, q4⟩ := shutP_kept (s := s) (z := at_) (st := st)
      rw [hst1] at q1 q2 q3 q4
      have Q1 := Lib.hid q1
      have Q2 := Lib.hid q2
      have Q4 := Lib.hid (q4 HLn.out)
      have HP : Hid (∀ w', ShutPost g s at_ st wc (.returned (.tuple #[.int .i64 p, .int .i64 ec])) w' → Rdr w' g s st1 ∧ Frm g wc w') := by
        intro w' h
        rw [← hst1]
        exact h.2
      have HSh : Hid (∀ e w', ShutPost g s at_ st wc e w' → e = .returned (.tuple #[.int .i64 p, .int .i64 ec])) := by
        intro e w' h
        rw [h.1, hp, hec]
      clear q1 q2 q3 q4 hp hec hst1
      go_upto_region 2 with fail
      go_cut [36] (fun s36 wx => s36 = .bool false ∧ wx = wc)
      case first =>
        cases ir
        · go_wp2
          go_meet
          exact ⟨rfl, rfl⟩
        · cases rm
          · exact absurd ⟨rfl, rfl⟩ hin
          · go_wp2
            go_meet
            exact ⟨rfl, rfl⟩
      case rest =>
        obtain ⟨rfl, rfl⟩ := hcut
        clear hin
        go_wp2_with fail
        refine (shut_any g s at_ st _ HR.out HLn.out hs hat HFR.out).mono ?_
        intro e w1 hpost
        obtain rfl := HSh.out _ _ hpost
        obtain ⟨hr1, hf1⟩ := HP.out _ hpost
        have HR1 := Lib.hid hr1
        have HF1 := Lib.hid hf1
        clear hpost hr1 hf1 HSh HP
        by_cases he : ec = 0
        · subst he
          obtain ⟨A, cc, hcc, k0, k1, k2, k3, k4, kf, _, _⟩ := HR1.out.cells
          have f4 := kf 4
          have f2 := kf 2
          have hg1 := HR1.out.lt
          clear kf hcc
          rw [Q2.out, HRM.out] at k4
          by_cases h10 : c = 10
          · subst h10
            have HE2 := HE.out
            rw [if_neg (by simp), if_pos rfl] at HE2
            have HEE := Lib.hid HE2
            clear HE2
            have HRr := Lib.hid (HR1.out.remark false)
            have HFr := Lib.hid (HF1.out.setCell 4 (.bool false))
            obtain ⟨T, hT⟩ : ∃ T : Tok, ({ kind := 3, text := ⟨#[]⟩, num := 0, at_ := at_, line := 0 } : Tok) = T := ⟨_, rfl⟩
            have HT := Lib.hid hT
            clear hT
            go_wp2_with fail
            refine (put_any g s { st1 with remark := false } { kind := 3, text := ⟨#[]⟩, num := 0, at_ := at_, line := 0 } _ HRr.out Q4.out).mono ?_
            rintro e w2 ⟨rfl, hr2, hf2⟩
            rw [HT.out] at hr2 ⊢
            rw [HT.out] at HEE
            obtain ⟨e2, he2⟩ : ∃ e2, (putP { st1 with remark := false } T).1 = e2 := ⟨_, rfl⟩
            obtain ⟨st2, hst2⟩ : ∃ st2, (putP { st1 with remark := false } T).2 = st2 := ⟨_, rfl⟩
            have hl2 : st2.line = st.line := by rw [← hst2, putP_line]; exact Q1.out
            rw [hst2] at hr2
            rw [he2]
            rw [he2, hst2] at HEE
            obtain ⟨A2, cc2, hcc2, k0', k1', k2', k3', k4', kf', _, _⟩ := hr2.cells
            have f2' := kf' 2
            have hg2 := hr2.lt
            rw [hl2] at k2'
            have HR2 := Lib.hid (hr2.line (st2.line + 1))
            rw [hl2] at HR2
            have HF2 := Lib.hid (HFr.out.trans (hf2.setCell 2 (.int .i64 ((st2.line + 1 : Nat) : Int))))
            rw [hl2] at HF2 HEE
            have hadd : ((st.line + 1 : Nat) : Int) = (st.line : Int) + 1 := by omega
            rw [hadd] at HR2 HF2
            clear hr2 hf2 hst2 he2 hl2 hadd kf' hcc2 k0 k1 k2 k3 k4 f4 f2
            go_wp2
            go_ret2
            exact .mk HEE.out HR2.out HF2.out
          · have hb10 : ((c : Int) == 10) = false := by simp; omega
            have HE2 := HE.out
            rw [if_neg (by simp), if_neg h10] at HE2
            by_cases hbl : st1.remark = true ∨ c = 32 ∨ c = 9 ∨ c = 13
            · rw [if_pos hbl] at HE2
              have HEE := Lib.hid HE2
              rw [Q2.out, HRM.out] at hbl
              clear HE2
              have hbl' : rm = true ∨ (rm = false ∧ c = 32) ∨ (rm = false ∧ ((c : Int) == 32) = false ∧ c = 9) ∨ (rm = false ∧ ((c : Int) == 32) = false ∧ ((c : Int) == 9) = false ∧ c = 13) := by
                cases rm
                · simp only [Bool.false_eq_true, false_or] at hbl
                  rcases hbl with rfl | rfl | rfl <;> simp
                · exact .inl rfl
              clear hbl
              rcases hbl' with rfl | ⟨rfl, rfl⟩ | ⟨rfl, g1, rfl⟩ | ⟨rfl, g1, g2, rfl⟩
              all_goals
                go_wp2
                go_ret2
                exact .mk HEE.out HR1.out HF1.out
            · rw [if_neg hbl] at HE2
              rw [Q2.out, HRM.out] at hbl
              obtain rfl : rm = false := by cases rm <;> simp_all
              have g1 : ((c : Int) == 32) = false := by simp; omega
              have g2 : ((c : Int) == 9) = false := by simp; omega
              have g3 : ((c : Int) == 13) = false := by simp; omega
              clear hbl
              by_cases h35 : c = 35
              · subst h35
                rw [if_pos rfl] at HE2
                have HEE := Lib.hid HE2
                clear HE2
                go_wp2
                go_ret2
                exact .mk HEE.out (HR1.out.remark true) (HF1.out.setCell 4 _)
              · have g4 : ((c : Int) == 35) = false := by simp; omega
                rw [if_neg h35] at HE2
                have HEE := Lib.hid HE2
                clear HE2
                have hcv : ∀ Wd, (convert 21 9 (.int .i32 (c : Int))).run Tryd.prog Wd = .ok (.string (Utf8.encode (c : Int))) Wd := fun Wd => run_convert_int_string Wd _ _ _ _ (by kernel_rfl) Tryd.underlying9
                generalize Utf8.encode (c : Int) = enc at hcv HEE
                go_wp2_with fail
                refine (sign_any c hc _).mono ?_
                rintro e w2 ⟨rfl, hb2⟩
                have HR2 := Lib.hid (HR1.out.below hb2)
                have HF2 := Lib.hid (HF1.out.trans (Frm.of_below (by omega) hb2))
                clear hb2 k0 k1 k2 k3 k4 f4 f2
                cases hsg : isSign c
                · rw [hsg] at HEE
                  have HE3 : Hid (runeP s at_ c st = ((at_ : Int), 20, st1)) := HEE.out
                  clear hsg HEE
                  go_wp2
                  go_ret2
                  exact .mk HE3.out HR2.out HF2.out
                · rw [hsg] at HEE
                  have HE3 : Hid (runeP s at_ c st = ((at_ : Int), putP st1 { kind := 2, text := enc, num := 0, at_ := at_, line := 0 })) := HEE.out
                  clear hsg HEE
                  go_wp2_with fail
                  refine (put_any g s st1 { kind := 2, text := enc, num := 0, at_ := at_, line := 0 } _ HR2.out Q4.out).mono ?_
                  rintro e w3 ⟨rfl, hr3, hf3⟩
                  have HR3 := Lib.hid hr3
                  have HF3 := Lib.hid (HF2.out.trans hf3)
                  clear hr3 hf3
                  go_wp2
                  go_ret2
                  exact .mk HE3.out HR3.out HF3.out
        · have hne : (ec == 0) = false := by simpa using he
          have HE2 : Hid (runeP s at_ c st = (p, ec, st1)) := by show _ = _; rw [HE.out, if_pos he]
          go_wp2
          go_ret2
          exact .mk HE2.out HR1.out HF1.out
end Go.Proofs.YthdlihiehfkceaaDoor

namespace Go.Proofs.YthdlihiehfkceaaDoor
open Go.RowKit
set_option linter.unusedVariables false

/-- What holds of the reader at a place of the text. -/
structure LInv (s : ByteArray) (pos : Nat) (st : LSt) : Prop where
  len : st.list.length ≤ 16384
  line : st.line ≤ pos
  from_ : ∀ a, st.from_ = some a → a < pos ∧ a < s.size
theorem runeP_inv {s : ByteArray} {pos c k : Nat} {st : LSt} (h : LInv s pos st) (hp : pos < s.size) (hk : 1 ≤ k) : LInv s (pos + k) (runeP s pos c st).2.2 := by
  by_cases hin : inRun c st = true ∧ st.remark = false
  · rw [runeP_in hin.1 hin.2]
    simp only
    split
    · exact ⟨h.len, by have := h.line; omega, fun a ha => by have := h.from_ a ha; omega⟩
    · refine ⟨h.len, by have := h.line; show st.line ≤ _; omega, fun a ha => ?_⟩
      have : pos = a := by simpa using ha
      omega
  · have hout : inRun c st = false ∨ st.remark = true := by
      cases h1 : inRun c st <;> cases h2 : st.remark <;> simp_all
    obtain ⟨q1, q2, q3, q4⟩ := shutP_kept (s := s) (z := pos) (st := st)
    have q4 := q4 h.len
    obtain ⟨p, hp'⟩ : ∃ p, (shutP s pos st).1 = p := ⟨_, rfl⟩
    obtain ⟨ec, hec⟩ : ∃ ec, (shutP s pos st).2.1 = ec := ⟨_, rfl⟩
    obtain ⟨st1, hst1⟩ : ∃ st1, (shutP s pos st).2.2 = st1 := ⟨_, rfl⟩
    rw [runeP_out hout (Prod.ext_iff.2 ⟨hp', Prod.ext_iff.2 ⟨hec, hst1⟩⟩ : shutP s pos st = (p, ec, st1))]
    rw [hst1] at q1 q2 q3 q4
    have hl := h.line
    have base : ∀ x : LSt, x.list.length ≤ 16384 → x.line ≤ pos + 1 → x.from_ = none → LInv s (pos + k) x := fun x h1 h2 h3 => ⟨h1, by omega, fun a ha => by rw [h3] at ha; cases ha⟩
    split
    · exact base st1 q4 (by omega) q3
    · split
      · exact base _ (putP_len _ q4) (by show (putP _ _).2.line + 1 ≤ _; rw [putP_line]; show st1.line + 1 ≤ _; omega) (by show (putP _ _).2.from_ = none; rw [putP_from]; exact q3)
      · split
        · exact base st1 q4 (by omega) q3
        · split
          · exact base { st1 with remark := true } q4 (by show st1.line ≤ _; omega) q3
          · split
            · exact base _ (putP_len _ q4) (by rw [putP_line]; omega) (by rw [putP_from]; exact q3)
            · exact base st1 q4 (by omega) q3
theorem own_iterAt {w : World} {base : Nat} {e : TypeId} {size n : Nat} {v : Value} {xs : List Value} {k : Nat} {s : ByteArray} {pos : Nat} (h : w.ownsRow base e size v n xs) (hk : w.heap[k]? = some (.stringIter s pos)) (p' : Nat) : (w.iterAt k s p').ownsRow base e size v n xs := by
  refine ⟨h.1, ?_⟩
  rcases h.2 with h0 | ⟨g, cap, cur, hv, hb, hg, rest⟩
  · exact .inl h0
  · refine .inr ⟨g, cap, cur, hv, hb, ?_, rest⟩
    rw [Lib.iterAt_other]
    · exact hg
    · rintro rfl
      rw [hk] at hg
      cases hg
theorem Bk.iterAt {w : World} {g k : Nat} {t : TypeId} {cs : Array Value} {s : ByteArray} (h : Bk w g t cs) (hk : g ≠ k) (p' : Nat) : Bk (w.iterAt k s p') g t cs := by
  unfold Bk at h ⊢
  rw [Lib.iterAt_other _ _ _ _ _ hk]; exact h
theorem Rdr.iterAt {w : World} {g k : Nat} {s : ByteArray} {st : LSt} {pos : Nat} (h : Rdr w g s st) (hk : w.heap[k]? = some (.stringIter s pos)) (hg : g ≠ k) (p' : Nat) : Rdr (w.iterAt k s p') g s st := by
  obtain ⟨v, h1, h2⟩ := h
  exact ⟨v, h1.iterAt hg p', own_iterAt h2 hk p'⟩
theorem lexGo_step {s : ByteArray} {f pos c k : Nat} {st st2 : LSt} {p e : Int} (hp : pos < s.size) (hd : Utf8.decode s pos = (c, k)) (hr : runeP s pos c st = (p, e, st2)) :
    lexGo s (f + 1) pos st = if e ≠ 0 then ([], p, e) else lexGo s f (pos + k) st2 := by
  rw [lexGo, if_pos hp, hd, hr]
theorem lexGo_end {s : ByteArray} {f pos : Nat} {st st2 : LSt} {p e : Int} (hp : ¬ pos < s.size) (hr : shutP s s.size st = (p, e, st2)) :
    lexGo s (f + 1) pos st = if e ≠ 0 then ([], p, e) else (st2.list, 0, 0) := by
  rw [lexGo, if_neg hp, hr]
def st0 : LSt := { list := [], line := 0, from_ := none, remark := false }
theorem width_pos (s : ByteArray) (pos : Nat) (h : pos < s.size) : 1 ≤ (Utf8.decode s pos).2 := by
  by_cases ha : (s[pos]'h).toNat < 128
  · rw [decode_ascii s pos h ha]
    exact Nat.le_refl _
  · exact (decode_high s pos h (by omega)).2

def LexPost (s : ByteArray) (w : World) (e : Ending) (w' : World) : Prop :=
  ∃ v, e = .returned (.tuple #[v, .int .i64 (lexP s).2.1, .int .i64 (lexP s).2.2]) ∧ w'.ownsRow w.heap.size 58 5 v (lexP s).1.length (tokCells (lexP s).1) ∧ Below w.heap.size w w'
theorem LexPost.bad {s : ByteArray} {w w' : World} {p e : Int} (h : lexP s = ([], p, e)) (hb : Below w.heap.size w w') : LexPost s w (.returned (.tuple #[.slice none 0 0, .int .i64 p, .int .i64 e])) w' := by
  refine ⟨.slice none 0 0, by rw [h], ?_, hb⟩
  rw [h]
  exact World.ownsRow_nil _ _ _ _
theorem LexPost.good {s : ByteArray} {w w' : World} {l : List Tok} {v : Value} (h : lexP s = (l, 0, 0)) (ho : w'.ownsRow w.heap.size 58 5 v l.length (tokCells l)) (hb : Below w.heap.size w w') : LexPost s w (.returned (.tuple #[v, .int .i64 0, .int .i64 0])) w' := by
  refine ⟨v, by rw [h], ?_, hb⟩
  rw [h]
  exact ho

set_option maxRecDepth 100000 in
set_option maxHeartbeats 4000000 in
theorem lex_any (s : ByteArray) (w : World) (hs63 : s.size ≤ maxLen) : Calls Tryd.prog 31 #[.string s] w (LexPost s w) := by
  unfold maxLen at hs63
  by_cases hs : 65536 < s.size
  · have HE : Hid (lexP s = ([], 0, 2)) := by show _ = _; rw [lexP, if_pos hs]
    go_enter Tryd.func31, Tryd.ntmps31
    go_wp2
    go_ret3
    exact .bad HE.out (Below.refl _ _)
  · have hs' : s.size ≤ 65536 := by omega
    obtain ⟨R, hR⟩ : ∃ R, lexGo s (s.size + 1) 0 st0 = R := ⟨_, rfl⟩
    have HE : Hid (lexP s = R) := by show _ = _; rw [lexP, if_neg hs]; exact hR
    have HR0 := Lib.hid hR
    clear hR
    go_enter Tryd.func31, Tryd.ntmps31
    go_wp2
    go_loopw [6, 7, 8, 9] (fun _u1 _u2 _u3 _u4 wr => ∃ (pos f : Nat) (st : LSt), (s.size < pos + f ∧ 0 < f) ∧ Hid (lexGo s f pos st = R) ∧ Hid (LInv s pos st) ∧ Rdr wr w.heap.size s st ∧ wr.heap[w.heap.size + 1]? = some (.stringIter s pos) ∧ Below w.heap.size w wr) (fun _ _ _ _ wr => s.size - wr.iterPos (w.heap.size + 1))
    case atStart =>
      refine ⟨0, s.size + 1, st0, ⟨by omega, by omega⟩, HR0, ⟨by simp [st0], by simp [st0], fun a ha => by simp [st0] at ha⟩, ?_, ?_, ((Below.refl _ _).alloc (Nat.le_refl _) _).alloc (by simp) _⟩
      · exact ⟨.slice none 0 0, (Bk.new w _ _).alloc _, World.ownsRow_nil _ _ _ _⟩
      · have := World.iter_heap (w.alloc (.cells #[.string s, .slice none 0 0, .int .i64 0, .int .i64 (-1), .bool false] 103)) s 0
        simpa using this
    case round =>
      obtain ⟨pos, f, st, hf, HG, HI, hr, hit, hb⟩ := hrel
      have HB := Lib.hid hb
      have HR := Lib.hid hr
      have HIt := Lib.hid hit
      have hsz : w.heap.size + 1 < wr.heap.size := (Array.getElem?_eq_some_iff.1 hit).1
      clear hb hr hit
      by_cases hp : pos < s.size
      · rcases f with _ | f
        · omega
        have hnx : ∀ ty, (Instr.next (.pointer (some ⟨w.heap.size + 1, 0, none⟩)) true ty).run Tryd.prog wr = _ := fun ty => Lib.run_next_any_at wr (w.heap.size + 1) s pos ty HIt.out hp
        have hwd := width_pos s pos hp
        have hd1 := decode_le s pos
        obtain ⟨c, hcc⟩ : ∃ c, (Utf8.decode s pos).1 = c := ⟨_, rfl⟩
        obtain ⟨k, hkk⟩ : ∃ k, (Utf8.decode s pos).2 = k := ⟨_, rfl⟩
        rw [hcc, hkk] at hnx
        rw [hcc] at hd1
        rw [hkk] at hwd
        have hdec : Utf8.decode s pos = (c, k) := Prod.ext_iff.2 ⟨hcc, hkk⟩
        have HIt2 := Lib.hid (Lib.iterAt_heap wr (w.heap.size + 1) s pos (pos + k) HIt.out)
        have HR2 := Lib.hid (HR.out.iterAt HIt.out (by omega) (pos + k))
        have HB2 := Lib.hid (Lib.below_iterAt HB.out (k := w.heap.size + 1) (by omega) s (pos + k))
        have HI2 := Lib.hid (runeP_inv (c := c) HI.out hp hwd)
        obtain ⟨p, hp'⟩ : ∃ p, (runeP s pos c st).1 = p := ⟨_, rfl⟩
        obtain ⟨ec, hec⟩ : ∃ ec, (runeP s pos c st).2.1 = ec := ⟨_, rfl⟩
        obtain ⟨st2, hst2⟩ : ∃ st2, (runeP s pos c st).2.2 = st2 := ⟨_, rfl⟩
        have hE : runeP s pos c st = (p, ec, st2) := Prod.ext_iff.2 ⟨hp', Prod.ext_iff.2 ⟨hec, hst2⟩⟩
        have hG := lexGo_step (f := f) hp hdec hE
        rw [HG.out] at hG
        rw [hE] at HI2
        have HEr := Lib.hid hE
        have HG2 := Lib.hid hG
        have HP := Lib.hid hp
        have HF := Lib.hid hf
        have HW := Lib.hid hwd
        clear hp' hec hst2 hE hG hf hdec hcc hkk
        go_wp2_with fail
        refine (rune_any w.heap.size s pos c st _ HR2.out HI.out.len hs' (by omega) (fun a ha => (HI.out.from_ a ha).1) (by have := HI.out.line; omega) hd1).mono ?_
        rintro e w1 ⟨rfl, hr1, hf1⟩
        rw [HEr.out] at hr1 ⊢
        have HR3 := Lib.hid hr1
        have HIt3 : Hid (w1.heap[w.heap.size + 1]? = some (.stringIter s (pos + k))) := hf1.kept (w.heap.size + 1) _ HIt2.out (by simp) (fun c fz => by simp)
        have HB3 := Lib.hid (HB2.out.trans hf1.below)
        clear hr1 hf1
        by_cases he : ec = 0
        · subst he
          have HG3 : Hid (lexGo s f (pos + k) st2 = R) := by
            show _ = _
            have := HG2.out
            rw [if_neg (by simp)] at this
            exact this.symm
          go_wp2
          go_roundw
          case rel => exact ⟨pos + k, f, st2, ⟨by have := HF.out; have := HW.out; omega, by have := HF.out; have := HP.out; omega⟩, HG3, HI2, HR3.out, HIt3.out, HB3.out⟩
          case measure =>
            have := HP.out
            have := HW.out
            simp only [World.iterPos, HIt3.out, HIt.out]
            omega
        · have hne : (ec == 0) = false := by simpa using he
          have HG3 : Hid (lexP s = ([], p, ec)) := by
            show _ = _
            have := HG2.out
            rw [if_pos he] at this
            rw [HE.out, this]
          go_wp2
          go_ret3
          exact .bad HG3.out HB3.out
      · have hnx : ∀ ty, (Instr.next (.pointer (some ⟨w.heap.size + 1, 0, none⟩)) true ty).run Tryd.prog wr = _ := fun ty => Lib.run_next_end_at wr (w.heap.size + 1) s pos ty HIt.out hp
        rcases f with _ | f
        · omega
        obtain ⟨p, hp'⟩ : ∃ p, (shutP s s.size st).1 = p := ⟨_, rfl⟩
        obtain ⟨ec, hec⟩ : ∃ ec, (shutP s s.size st).2.1 = ec := ⟨_, rfl⟩
        obtain ⟨st2, hst2⟩ : ∃ st2, (shutP s s.size st).2.2 = st2 := ⟨_, rfl⟩
        have hE : shutP s s.size st = (p, ec, st2) := Prod.ext_iff.2 ⟨hp', Prod.ext_iff.2 ⟨hec, hst2⟩⟩
        have hG := lexGo_end (f := f) hp hE
        rw [HG.out] at hG
        have HEr := Lib.hid hE
        have HG2 := Lib.hid hG
        clear hp' hec hst2 hE hG hf
        go_wp2_with fail
        refine (shut_any w.heap.size s s.size st _ HR.out HI.out.len hs' (Nat.le_refl _) (fun a ha => (HI.out.from_ a ha).2)).mono ?_
        rintro e w1 ⟨rfl, hr1, hf1⟩
        rw [HEr.out] at hr1 ⊢
        have HB3 := Lib.hid (HB.out.trans hf1.below)
        obtain ⟨A, cc, _, _, k1, _, _, _, _, _, ho⟩ := hr1.cells
        have hg1 := hr1.lt
        have HO := Lib.hid (own_base (base' := w.heap.size) ho (by omega))
        clear hr1 hf1 ho
        by_cases he : ec = 0
        · subst he
          have HG3 : Hid (lexP s = (st2.list, 0, 0)) := by
            show _ = _
            have := HG2.out
            rw [if_neg (by simp)] at this
            rw [HE.out, this]
          go_wp2
          go_ret3
          exact .good HG3.out HO.out HB3.out
        · have hne : (ec == 0) = false := by simpa using he
          have HG3 : Hid (lexP s = ([], p, ec)) := by
            show _ = _
            have := HG2.out
            rw [if_pos he] at this
            rw [HE.out, this]
          go_wp2
          go_ret3
          exact .bad HG3.out HB3.out
end Go.Proofs.YthdlihiehfkceaaDoor

namespace Go.Proofs.YthdlihiehfkceaaDoor
open Go.RowKit
set_option linter.unusedVariables false

theorem a_bk_new2 (w : World) (o : Obj) (t : TypeId) (cs : Array Value) : Bk ((w.alloc o).alloc (.cells cs t)) (w.heap.size + 1) t cs := by
  have := Bk.new (w.alloc o) t cs
  simpa using this
theorem Bk.seven {w : World} {g : Nat} {t : TypeId} {a0 a1 a2 a3 a4 a5 a6 : Value} (h : Bk w g t #[a0, a1, a2, a3, a4, a5, a6]) (b0 b1 b2 b3 b4 b5 b6 : Value) :
    Bk (((((((w.setCell ⟨g, 0, none⟩ b0).setCell ⟨g, 1, none⟩ b1).setCell ⟨g, 2, none⟩ b2).setCell ⟨g, 3, none⟩ b3).setCell ⟨g, 4, none⟩ b4).setCell ⟨g, 5, none⟩ b5).setCell ⟨g, 6, none⟩ b6) g t #[b0, b1, b2, b3, b4, b5, b6] := by
  have h0 : Bk (w.setCell ⟨g, 0, none⟩ b0) g t #[b0, a1, a2, a3, a4, a5, a6] := h.set_ 0 b0
  have h1 : Bk ((w.setCell ⟨g, 0, none⟩ b0).setCell ⟨g, 1, none⟩ b1) g t #[b0, b1, a2, a3, a4, a5, a6] := h0.set_ 1 b1
  have h2 : Bk (((w.setCell ⟨g, 0, none⟩ b0).setCell ⟨g, 1, none⟩ b1).setCell ⟨g, 2, none⟩ b2) g t #[b0, b1, b2, a3, a4, a5, a6] := h1.set_ 2 b2
  have h3 : Bk ((((w.setCell ⟨g, 0, none⟩ b0).setCell ⟨g, 1, none⟩ b1).setCell ⟨g, 2, none⟩ b2).setCell ⟨g, 3, none⟩ b3) g t #[b0, b1, b2, b3, a4, a5, a6] := h2.set_ 3 b3
  have h4 : Bk (((((w.setCell ⟨g, 0, none⟩ b0).setCell ⟨g, 1, none⟩ b1).setCell ⟨g, 2, none⟩ b2).setCell ⟨g, 3, none⟩ b3).setCell ⟨g, 4, none⟩ b4) g t #[b0, b1, b2, b3, b4, a5, a6] := h3.set_ 4 b4
  have h5 : Bk ((((((w.setCell ⟨g, 0, none⟩ b0).setCell ⟨g, 1, none⟩ b1).setCell ⟨g, 2, none⟩ b2).setCell ⟨g, 3, none⟩ b3).setCell ⟨g, 4, none⟩ b4).setCell ⟨g, 5, none⟩ b5) g t #[b0, b1, b2, b3, b4, b5, a6] := h4.set_ 5 b5
  exact h5.set_ 6 b6
theorem below_seven {B : Nat} {a w : World} (h : Below B a w) {g : Nat} (hg : B ≤ g) (b0 b1 b2 b3 b4 b5 b6 : Value) : Below B a (((((((w.setCell ⟨g, 0, none⟩ b0).setCell ⟨g, 1, none⟩ b1).setCell ⟨g, 2, none⟩ b2).setCell ⟨g, 3, none⟩ b3).setCell ⟨g, 4, none⟩ b4).setCell ⟨g, 5, none⟩ b5).setCell ⟨g, 6, none⟩ b6) :=
  ((((((h.setCell hg b0).setCell hg b1).setCell hg b2).setCell hg b3).setCell hg b4).setCell hg b5).setCell hg b6
theorem res_row {P : Program} {fn : Func} {p u : Tmp} {ty : TypeId} (h : fn.results = #[.cell p ty, .tmp u]) (tmps : Array Value) (w : World) (g : Nat) (t : TypeId) (cs : Array Value) (d : TypeDesc)
    (hp : tmps.getD p undef = .pointer (some ⟨g, 0, none⟩)) (hg : Bk w g t cs)
    (hu : P.underlying ty = some d) (hd : (match d with | .struct _ | .array _ _ => true | _ => false) = true) (hi : (P.info? ty).map (·.size) = some cs.size) :
    (results fn tmps).run P w = .ok (.tuple #[.agg cs, tmps.getD u undef]) w := by
  rw [results_cell_tmp h, hp]
  simp [asAddr, run_loadVar_row w g t ty cs _ d hg hu hd hi, Result.andThen]
theorem info_order : (Tryd.prog.info? 111).map (·.size) = some 7 := by kernel_rfl
theorem res_order {fn : Func} (hr : fn.results = #[.cell 4 111, .tmp 5]) (tmps : Array Value) (w : World) (g : Nat) (cs : Array Value) (h7 : cs.size = 7) (hp : tmps.getD 4 undef = .pointer (some ⟨g, 0, none⟩)) (hg : Bk w g 111 cs) :
    (results fn tmps).run Tryd.prog w = .ok (.tuple #[.agg cs, tmps.getD 5 undef]) w :=
  res_row hr tmps w g _ cs _ hp hg Tryd.underlying111 rfl (by rw [h7]; exact info_order)
def posF (op k : Nat) : Nat := (encs ((formP op).take k)).size
theorem form_dec : ∀ op : Fin 22, ∀ k : Fin 8, k.val < (formP op.val).length →
    posF op.val k.val < (formText op.val).size ∧ Utf8.decode (formText op.val) (posF op.val k.val) = ((formP op.val).getD k.val 0, posF op.val (k.val + 1) - posF op.val k.val) ∧ posF op.val k.val < posF op.val (k.val + 1) ∧ posF op.val (k.val + 1) ≤ (formText op.val).size := by decide +kernel
theorem form_len : ∀ op : Fin 22, (formP op.val).length ≤ 7 ∧ posF op.val (formP op.val).length = (formText op.val).size ∧ posF op.val 0 = 0 := by decide +kernel
theorem elem_toks : Tryd.prog.underlying 56 = some (.slice (Tryd.prog.elem 56)) := by kernel_rfl
theorem size_toks (W : World) : (sizeOf (Tryd.prog.elem 56)).run Tryd.prog W = .ok 5 W := by kernel_rfl
def MatchPost (op : Nat) (l : List Tok) (w : World) (e : Ending) (w' : World) : Prop :=
  ∃ (o : Ord) (ok : Bool), e = .returned (.tuple #[.agg o.cells.toArray, .bool ok]) ∧ matchP op l = (if ok then some o else none) ∧ Below w.heap.size w w'
theorem MatchPost.yes {op : Nat} {l : List Tok} {w w' : World} {o : Ord} (h : matchP op l = some o) (hb : Below w.heap.size w w') : MatchPost op l w (.returned (.tuple #[.agg o.cells.toArray, .bool true])) w' :=
  ⟨o, true, rfl, h, hb⟩
theorem MatchPost.no {op : Nat} {l : List Tok} {w w' : World} (o : Ord) (h : matchP op l = none) (hb : Below w.heap.size w w') : MatchPost op l w (.returned (.tuple #[.agg o.cells.toArray, .bool false])) w' :=
  ⟨o, false, rfl, h, hb⟩

set_option maxHeartbeats 4000000 in
theorem match_any (op : Nat) (hop : op < 22) (l : List Tok) (A : Option Addr) (n c : Nat) (w : World) (hr : RdT w w.heap.size A n l) (h0 : 0 < n) (hnc : n ≤ c) :
    Calls Tryd.prog 57 #[.int .i64 op, .slice A n c] w (MatchPost op l w) := by
  obtain ⟨b, o, t, rfl, hbB, ht, c0, c1, c2, c3, c4⟩ := hr.tokAt h0
  simp only [Nat.zero_mul, Nat.add_zero] at c0 c1 c2 c3 c4
  have h63 := hr.le
  unfold maxLen at h63
  have HR := Lib.hid hr
  clear hr
  go_enter Tryd.func57, Tryd.ntmps57
  go_upto_region 2 with fail
  have HOp : Hid (ord0 op l = ⟨⟨op, 0, 0, 0, 0⟩, ⟨#[]⟩, t.at_⟩) := by
    show _ = _
    have : l.head? = some t := by rw [List.head?_eq_getElem?]; exact ht
    unfold ord0; rw [this]; rfl
  obtain ⟨ta, hta⟩ : ∃ ta, t.at_ = ta := ⟨_, rfl⟩
  rw [hta] at HOp ⊢
  obtain ⟨W0, hW0⟩ : ∃ W0, (w.alloc (.cells #[.int .i64 0, .int .i64 0, .int .i64 0, .int .i64 0, .int .u64 0, .string ⟨#[]⟩, .int .i64 0] 111)).alloc (.cells #[.int .i64 op, .int .i64 0, .int .i64 0, .int .i64 0, .int .u64 0, .string ⟨#[]⟩, .int .i64 ta] 111) = W0 := ⟨_, rfl⟩
  rw [hW0]
  have HZ : Hid (BkO W0 w.heap.size ⟨⟨0, 0, 0, 0, 0⟩, ⟨#[]⟩, 0⟩) := by show Bk _ _ _ _; rw [← hW0]; exact (Bk.new w _ _).alloc _
  have HO : Hid (BkO W0 (w.heap.size + 1) (ord0 op l)) := by
    show Bk _ _ _ _
    rw [← hW0, HOp.out]
    exact a_bk_new2 _ _ _ _
  have HB0 : Hid (Below w.heap.size w W0) := by show Below _ _ _; rw [← hW0]; exact ((Below.refl _ _).alloc (Nat.le_refl _) _).alloc (by simp) _
  have HSz : Hid (W0.heap.size = w.heap.size + 2) := by show _ = _; rw [← hW0]; simp
  clear hW0 hta
  obtain ⟨hf7, hfs, hf0⟩ := form_len ⟨op, hop⟩
  simp only at hf7 hfs hf0
  have HF := Lib.hid hfs
  have HF0 := Lib.hid hf0
  clear hfs hf0 c0 c1 c2 c3 c4
  go_wp2_with (go_at_call 24; refine (aform_any _ _).mono ?_; rintro e w' ⟨rfl, rfl⟩)
  go_loopw [1, 8] (fun x _c wr => ∃ (k : Nat) (A' : Option Addr) (n' c' : Nat) (r : List Tok) (od : Ord), (x = .slice A' n' c' ∧ n' ≤ c' ∧ n' ≤ n ∧ k ≤ (formP op).length) ∧ Hid (RdT w w.heap.size A' n' r) ∧ Hid (matchGo ((formP op).drop k) r od = matchP op l) ∧ wr.heap[w'.heap.size]? = some (.stringIter (formText op) (posF op k)) ∧ Hid (BkO wr (w.heap.size + 1) od) ∧ Hid (BkO wr w.heap.size ⟨⟨0, 0, 0, 0, 0⟩, ⟨#[]⟩, 0⟩) ∧ Hid (Below w.heap.size w wr)) (fun _ _ wr => (formText op).size - wr.iterPos w'.heap.size)
  case atStart => exact ⟨0, _, n, c, l, _, ⟨rfl, hnc, Nat.le_refl _, Nat.zero_le _⟩, HR, rfl, by rw [HF0.out]; exact World.iter_heap w' (formText op) 0, Bk.alloc HO.out _, Bk.alloc HZ.out _, HB0.out.alloc HB0.out.size _⟩
  case round =>
    clear ht HO HZ HB0
    obtain ⟨k, A', n', c', r, od, ⟨rfl, hnc', hnn, hk⟩, HR', HM, hit, HO, HZ, HB⟩ := hrel
    have HI := Lib.hid hit
    clear hit
    by_cases hlt : k < (formP op).length
    · obtain ⟨h1, h2, h3, h4⟩ := form_dec ⟨op, hop⟩ ⟨k, by omega⟩ hlt
      simp only at h1 h2 h3 h4
      have hnx : ∀ ty, (Instr.next (.pointer (some ⟨w'.heap.size, 0, none⟩)) true ty).run Tryd.prog wr = _ := fun ty => Lib.run_next_any_at wr w'.heap.size (formText op) (posF op k) ty HI.out h1
      rw [h2] at hnx
      simp only at hnx
      rw [show posF op k + (posF op (k + 1) - posF op k) = posF op (k + 1) by omega] at hnx
      have hdr : (formP op).drop k = (formP op).getD k 0 :: (formP op).drop (k + 1) := by
        rw [List.drop_eq_getElem_cons hlt, List.getD_eq_getElem?_getD, List.getElem?_eq_getElem hlt]; rfl
      have hm := HM.out
      rw [hdr] at hm
      have H34 : Hid (posF op k < posF op (k + 1) ∧ posF op (k + 1) ≤ (formText op).size) := ⟨h3, h4⟩
      have hit2 := Lib.hid (Lib.iterAt_heap wr w'.heap.size (formText op) (posF op k) (posF op (k + 1)) HI.out)
      have hb2 := Lib.hid (Lib.below_iterAt HB.out (k := w'.heap.size) (by have := HSz.out; omega) (formText op) (posF op (k + 1)))
      have HO2 := Lib.hid (Bk.iterAt (s := formText op) HO.out (show w.heap.size + 1 ≠ w'.heap.size by have := HSz.out; omega) (posF op (k + 1)))
      have HZ2 := Lib.hid (Bk.iterAt (s := formText op) HZ.out (show w.heap.size ≠ w'.heap.size by have := HSz.out; omega) (posF op (k + 1)))
      have HK : Hid (k + 1 ≤ (formP op).length) := hlt
      clear h1 h2 h3 h4 hdr
      generalize (formP op).getD k 0 = q at hnx hm
      obtain ⟨V, hV⟩ : ∃ V, wr.iterAt w'.heap.size (formText op) (posF op (k + 1)) = V := ⟨_, rfl⟩
      rw [hV] at hnx hit2 hb2 HO2 HZ2
      clear hV
      by_cases hn0 : n' = 0
      · subst hn0
        have hrn : r = [] := List.eq_nil_of_length_eq_zero HR'.out.tokLen
        rw [hrn, matchGo] at hm
        have HN : Hid (matchP op l = none) := hm.symm
        clear hm hrn
        have z0 : V.cell? ⟨w.heap.size, 0, none⟩ = some (.int .i64 0) := HZ2.out.cell 0
        have y0 := HZ2.out.frozen 0
        have z1 : V.cell? ⟨w.heap.size, 1, none⟩ = some (.int .i64 0) := HZ2.out.cell 1
        have y1 := HZ2.out.frozen 1
        have z2 : V.cell? ⟨w.heap.size, 2, none⟩ = some (.int .i64 0) := HZ2.out.cell 2
        have y2 := HZ2.out.frozen 2
        have z3 : V.cell? ⟨w.heap.size, 3, none⟩ = some (.int .i64 0) := HZ2.out.cell 3
        have y3 := HZ2.out.frozen 3
        have z4 : V.cell? ⟨w.heap.size, 4, none⟩ = some (.int .u64 0) := HZ2.out.cell 4
        have y4 := HZ2.out.frozen 4
        have z5 : V.cell? ⟨w.heap.size, 5, none⟩ = some (.string ⟨#[]⟩) := HZ2.out.cell 5
        have y5 := HZ2.out.frozen 5
        have z6 : V.cell? ⟨w.heap.size, 6, none⟩ = some (.int .i64 0) := HZ2.out.cell 6
        have y6 := HZ2.out.frozen 6
        go_wp2
        (try simp only [Exit.inBlock, Exit.then])
        refine bodyPost_ret (res_order rfl _ _ w.heap.size _ (by rfl) (by rfl) (Bk.seven (show Bk _ w.heap.size 111 #[.int .i64 0, .int .i64 0, .int .i64 0, .int .i64 0, .int .u64 0, .string ⟨#[]⟩, .int .i64 0] from HZ2.out) _ _ _ _ _ _ _)) rfl ?_
        exact .no ⟨⟨0, 0, 0, 0, 0⟩, ⟨#[]⟩, 0⟩ HN.out (below_seven hb2.out (Nat.le_refl _) _ _ _ _ _ _ _)
      · have hn1 : 0 < n' := by omega
        have hne : ((n' : Int) == 0) = false := by rw [beq_eq_false_iff_ne]; omega
        obtain ⟨b', o', ⟨kd, tx, nu, ta', tl⟩, rfl, hbB', ht', d0, d1, d2, d3, d4⟩ := (HR'.out.below hb2.out).tokAt hn1
        simp only [Nat.zero_mul, Nat.add_zero] at d0 d1 d2 d3 d4
        obtain ⟨r', rfl⟩ : ∃ r', r = ⟨kd, tx, nu, ta', tl⟩ :: r' := by
          cases r with
          | nil => simp at ht'
          | cons y r' => exact ⟨r', by simp at ht'; rw [ht']⟩
        rw [matchGo] at hm
        obtain ⟨tk, htk⟩ : ∃ tk, takeP q ⟨kd, tx, nu, ta', tl⟩ od = tk := ⟨_, rfl⟩
        rw [htk] at hm
        obtain ⟨o2, b2⟩ := tk
        have HT := Lib.hid htk
        have HM2 := Lib.hid hm
        clear hm htk ht'
        obtain ⟨A3, s3, r3⟩ := cut_l (P := Tryd.prog) 56 elem_toks size_toks HR'.out hnc' 1 1 rfl (by omega)
        have HR3 := Lib.hid r3
        clear r3
        cases b2
        · have HN : Hid (matchP op l = none) := HM2.out.symm
          go_wp2_with (
            go_at_call 76
            refine (take_any (w.heap.size + 1) od q ⟨kd, tx, nu, ta', tl⟩ V HO2.out).mono ?_
            rintro e w1 ⟨rfl, hO1, hg1⟩
            rw [HT.out] at hO1 ⊢
            simp only at hO1 ⊢
            have HZ1 := Lib.hid (HZ2.out.grown hg1 (by simp))
            have HB1 := Lib.hid (hb2.out.grown hg1 hb2.out.size (fun j e => by cases e; omega))
            have HI1 : Hid (w1.heap[w'.heap.size]? = some (.stringIter (formText op) (posF op (k + 1)))) := (hg1.block _ (Array.getElem?_eq_some_iff.1 hit2.out).1 (by have := HSz.out; simp; omega)).trans hit2.out
            have HO1 := Lib.hid hO1
            have z0 : w1.cell? ⟨w.heap.size, 0, none⟩ = some (.int .i64 0) := HZ1.out.cell 0
            have y0 := HZ1.out.frozen 0
            have z1 : w1.cell? ⟨w.heap.size, 1, none⟩ = some (.int .i64 0) := HZ1.out.cell 1
            have y1 := HZ1.out.frozen 1
            have z2 : w1.cell? ⟨w.heap.size, 2, none⟩ = some (.int .i64 0) := HZ1.out.cell 2
            have y2 := HZ1.out.frozen 2
            have z3 : w1.cell? ⟨w.heap.size, 3, none⟩ = some (.int .i64 0) := HZ1.out.cell 3
            have y3 := HZ1.out.frozen 3
            have z4 : w1.cell? ⟨w.heap.size, 4, none⟩ = some (.int .u64 0) := HZ1.out.cell 4
            have y4 := HZ1.out.frozen 4
            have z5 : w1.cell? ⟨w.heap.size, 5, none⟩ = some (.string ⟨#[]⟩) := HZ1.out.cell 5
            have y5 := HZ1.out.frozen 5
            have z6 : w1.cell? ⟨w.heap.size, 6, none⟩ = some (.int .i64 0) := HZ1.out.cell 6
            have y6 := HZ1.out.frozen 6
            clear hO1 hg1)
          (try simp only [Exit.inBlock, Exit.then])
          refine bodyPost_ret (res_order rfl _ _ w.heap.size _ (by rfl) (by rfl) (Bk.seven (show Bk _ w.heap.size 111 #[.int .i64 0, .int .i64 0, .int .i64 0, .int .i64 0, .int .u64 0, .string ⟨#[]⟩, .int .i64 0] from HZ1.out) _ _ _ _ _ _ _)) rfl ?_
          exact .no ⟨⟨0, 0, 0, 0, 0⟩, ⟨#[]⟩, 0⟩ HN.out (below_seven HB1.out (Nat.le_refl _) _ _ _ _ _ _ _)
        · skip
          go_wp2_with (
            go_at_call 76
            refine (take_any (w.heap.size + 1) od q ⟨kd, tx, nu, ta', tl⟩ V HO2.out).mono ?_
            rintro e w1 ⟨rfl, hO1, hg1⟩
            rw [HT.out] at hO1 ⊢
            simp only at hO1 ⊢
            have HZ1 := Lib.hid (HZ2.out.grown hg1 (by simp))
            have HB1 := Lib.hid (hb2.out.grown hg1 hb2.out.size (fun j e => by cases e; omega))
            have HI1 : Hid (w1.heap[w'.heap.size]? = some (.stringIter (formText op) (posF op (k + 1)))) := (hg1.block _ (Array.getElem?_eq_some_iff.1 hit2.out).1 (by have := HSz.out; simp; omega)).trans hit2.out
            have HO1 := Lib.hid hO1
            clear hO1 hg1)
          go_roundw
          case rel => exact ⟨k + 1, A3, n' - 1, c' - 1, r', o2, ⟨rfl, by omega, by omega, HK.out⟩, HR3.out, HM2.out, HI1.out, HO1.out, HZ1.out, HB1.out⟩
          case measure =>
            have := H34.out
            simp only [World.iterPos, HI1.out, HI.out]
            omega
    · obtain rfl : k = (formP op).length := by omega
      have hnx : ∀ ty, (Instr.next (.pointer (some ⟨w'.heap.size, 0, none⟩)) true ty).run Tryd.prog wr = _ := fun ty => Lib.run_next_end_at wr w'.heap.size (formText op) (posF op (formP op).length) ty HI.out (by rw [HF.out]; omega)
      have hm := HM.out
      rw [List.drop_length, matchGo] at hm
      obtain ⟨⟨oo, oa, ob, oc, om⟩, on, oat⟩ := od
      have x0 : wr.cell? ⟨w.heap.size + 1, 0, none⟩ = some (.int .i64 oo) := HO.out.cell 0
      have x1 : wr.cell? ⟨w.heap.size + 1, 1, none⟩ = some (.int .i64 oa) := HO.out.cell 1
      have x2 : wr.cell? ⟨w.heap.size + 1, 2, none⟩ = some (.int .i64 ob) := HO.out.cell 2
      have x3 : wr.cell? ⟨w.heap.size + 1, 3, none⟩ = some (.int .i64 oc) := HO.out.cell 3
      have x4 : wr.cell? ⟨w.heap.size + 1, 4, none⟩ = some (.int .u64 om) := HO.out.cell 4
      have x5 : wr.cell? ⟨w.heap.size + 1, 5, none⟩ = some (.string on) := HO.out.cell 5
      have x6 : wr.cell? ⟨w.heap.size + 1, 6, none⟩ = some (.int .i64 oat) := HO.out.cell 6
      have z0 : wr.cell? ⟨w.heap.size, 0, none⟩ = some (.int .i64 0) := HZ.out.cell 0
      have y0 := HZ.out.frozen 0
      have z1 : wr.cell? ⟨w.heap.size, 1, none⟩ = some (.int .i64 0) := HZ.out.cell 1
      have y1 := HZ.out.frozen 1
      have z2 : wr.cell? ⟨w.heap.size, 2, none⟩ = some (.int .i64 0) := HZ.out.cell 2
      have y2 := HZ.out.frozen 2
      have z3 : wr.cell? ⟨w.heap.size, 3, none⟩ = some (.int .i64 0) := HZ.out.cell 3
      have y3 := HZ.out.frozen 3
      have z4 : wr.cell? ⟨w.heap.size, 4, none⟩ = some (.int .u64 0) := HZ.out.cell 4
      have y4 := HZ.out.frozen 4
      have z5 : wr.cell? ⟨w.heap.size, 5, none⟩ = some (.string ⟨#[]⟩) := HZ.out.cell 5
      have y5 := HZ.out.frozen 5
      have z6 : wr.cell? ⟨w.heap.size, 6, none⟩ = some (.int .i64 0) := HZ.out.cell 6
      have y6 := HZ.out.frozen 6
      have hlr := HR'.out.tokLen
      by_cases hn0 : n' = 0
      all_goals
        first
          | (have e0 : ((n' : Int) == 0) = true := by rw [beq_iff_eq]; omega
             have HN : Hid (matchP op l = some ⟨⟨oo, oa, ob, oc, om⟩, on, oat⟩) := by
               show _ = _
               rw [← hm, if_pos (List.eq_nil_of_length_eq_zero (by omega))])
          | (have e0 : ((n' : Int) == 0) = false := by rw [beq_eq_false_iff_ne]; omega
             have HN : Hid (matchP op l = none) := by
               show _ = _
               rw [← hm, if_neg (fun e => hn0 (by rw [← hlr, e]; rfl))])
        clear hm hlr hn0
        go_wp2
        (try simp only [Exit.inBlock, Exit.then])
        refine bodyPost_ret (res_order rfl _ _ w.heap.size _ (by rfl) (by rfl) (Bk.seven (show Bk _ w.heap.size 111 #[.int .i64 0, .int .i64 0, .int .i64 0, .int .i64 0, .int .u64 0, .string ⟨#[]⟩, .int .i64 0] from HZ.out) _ _ _ _ _ _ _)) rfl ?_
        first
          | exact .yes (o := ⟨⟨oo, oa, ob, oc, om⟩, on, oat⟩) HN.out (below_seven HB.out (Nat.le_refl _) _ _ _ _ _ _ _)
          | exact .no ⟨⟨oo, oa, ob, oc, om⟩, on, oat⟩ HN.out (below_seven HB.out (Nat.le_refl _) _ _ _ _ _ _ _)
end Go.Proofs.YthdlihiehfkceaaDoor

namespace Go.Proofs.YthdlihiehfkceaaDoor
open Go.RowKit
set_option linter.unusedVariables false

def Ord.val (o : Ord) : Value := .agg o.cells.toArray
/-- A line's value. -/
def Lin.val : Lin → Value
  | .mark s a => .iface 109 (.agg #[.string s, .int .i64 a])
  | .order o => .iface 111 (.agg o.cells.toArray)
def linV : Option Lin → Value
  | none => .nilIface
  | some x => x.val
def ParsePost (l : List Tok) (w : World) (e : Ending) (w' : World) : Prop := e = .returned (linV (parseP l)) ∧ Below w.heap.size w w'
theorem ParsePost.mk {l : List Tok} {w w' : World} {r : Option Lin} {v : Value} (h : parseP l = r) (hv : v = linV r) (hb : Below w.heap.size w w') : ParsePost l w (.returned v) w' := by
  subst hv
  unfold ParsePost
  rw [h]
  exact ⟨rfl, hb⟩
theorem isMark_len {l : List Tok} (h : l.length ≠ 2) : isMark l = none := by
  match l, h with
  | [], _ => rfl
  | [_], _ => rfl
  | [_, _], h => exact absurd rfl h
  | _ :: _ :: _ :: _, _ => rfl
theorem isMark_two (x y : Tok) : isMark [x, y] = if x.kind = 0 ∧ freeP x.text = true ∧ y.kind = 2 ∧ y.text = ⟨#[58]⟩ then some (x.text, x.at_) else none := rfl
theorem two_of {l : List Tok} (h : l.length = 2) : ∃ x y, l = [x, y] := by
  match l, h with
  | [x, y], _ => exact ⟨x, y, rfl⟩
theorem colon_list : (⟨#[58]⟩ : ByteArray).toList = [58] := (ByteArray.toList_eq _).trans rfl
theorem opsGo_zero (l : List Tok) (k : Nat) : opsGo l 0 k = none := rfl
theorem opsGo_hit {l : List Tok} {f k : Nat} {o : Ord} (h : matchP (k : Int) l = some o) : opsGo l (f + 1) k = some o := by rw [opsGo, h]
theorem opsGo_miss {l : List Tok} {f k : Nat} (h : matchP (k : Int) l = none) : opsGo l (f + 1) k = opsGo l f (k + 1) := by rw [opsGo, h]

set_option maxHeartbeats 8000000 in
theorem parse_any (l : List Tok) (A : Option Addr) (n c : Nat) (w : World) (hr : RdT w w.heap.size A n l) (h0 : 0 < n) (hnc : n ≤ c) :
    Calls Tryd.prog 33 #[.slice A n c] w (ParsePost l w) := by
  have h63 := hr.le
  unfold maxLen at h63
  have HR := Lib.hid hr
  have hlen := hr.tokLen
  by_cases hn2 : n = 2
  · subst hn2
    obtain ⟨⟨xk, xt, xn, xa, xl⟩, ⟨yk, yt, yn, ya, yl⟩, rfl⟩ := two_of hlen
    obtain ⟨b, o, t, rfl, hbB, ht, c0, c1, c2, c3, c4⟩ := hr.tokAt (k := 0) (by omega)
    cases ht
    obtain ⟨b', o', t', hA', _, ht', e0, e1, e2, e3, e4⟩ := hr.tokAt (k := 1) (by omega)
    cases hA'
    cases ht'
    simp only [Nat.zero_mul, Nat.add_zero, Nat.one_mul] at c0 c1 c2 c3 c4 e0 e1 e2 e3 e4
    clear hr hlen
    have him := isMark_two ⟨xk, xt, xn, xa, xl⟩ ⟨yk, yt, yn, ya, yl⟩
    simp only at him
    have hyt := bytes_eq yt ⟨#[58]⟩
    rw [colon_list] at hyt
    obtain ⟨fr, hfr⟩ : ∃ fr, freeP xt = fr := ⟨_, rfl⟩
    have HFr := Lib.hid hfr
    rw [hfr] at him
    clear hfr
    by_cases hxk : xk = 0
    · have g0 : (xk == 0) = true := beq_iff_eq.2 hxk
      cases fr
      · have HIm : Hid (isMark [⟨xk, xt, xn, xa, xl⟩, ⟨yk, yt, yn, ya, yl⟩] = none) := by show _ = _; rw [him, if_neg (by simp)]
        clear him hyt hxk
        go_enter Tryd.func33, Tryd.ntmps33
        go_wp2_with (go_at_call 56; refine (free_any _ _).mono ?_; rintro e w' ⟨rfl, hbf⟩; rw [HFr.out]; have HBf := Lib.hid hbf; clear hbf)
        go_loopw [47] (fun i wr => ∃ k : Nat, (k ≤ 22 ∧ i = .int .i64 k) ∧ Hid (opsGo [⟨xk, xt, xn, xa, xl⟩, ⟨yk, yt, yn, ya, yl⟩] (22 - k) k = opsGo [⟨xk, xt, xn, xa, xl⟩, ⟨yk, yt, yn, ya, yl⟩] 22 0) ∧ Hid (Below w.heap.size w wr)) (fun i _ => 22 - (intOf i).toNat)
        case atStart => exact ⟨0, ⟨by omega, rfl⟩, rfl, HBf.out⟩
        case round =>
          obtain ⟨k, ⟨hk, rfl⟩, HG, HB⟩ := hrel
          by_cases hlt : k < 22
          · have hlti : (k : Int) < 22 := by omega
            have HG2 : Hid (opsGo [⟨xk, xt, xn, xa, xl⟩, ⟨yk, yt, yn, ya, yl⟩] ((22 - (k + 1)) + 1) k = opsGo [⟨xk, xt, xn, xa, xl⟩, ⟨yk, yt, yn, ya, yl⟩] 22 0) := by have h := HG.out; rw [show 22 - k = (22 - (k + 1)) + 1 by omega] at h; exact h
            have hmt := match_any k hlt [⟨xk, xt, xn, xa, xl⟩, ⟨yk, yt, yn, ya, yl⟩] (some ⟨b, o, none⟩) 2 c wr ((HR.out.below HB.out).more HB.out.size) (by omega) (by omega)
            obtain ⟨mm, hmm⟩ : ∃ mm, matchP (k : Int) [⟨xk, xt, xn, xa, xl⟩, ⟨yk, yt, yn, ya, yl⟩] = mm := ⟨_, rfl⟩
            have HMm := Lib.hid hmm
            clear hmm
            cases mm with
            | none =>
              go_wp2_with (
                go_at_call 57
                refine hmt.mono ?_
                rintro e w1 ⟨⟨⟨oo, oa, ob, oc, om⟩, on, oat⟩, ok, rfl, hok, hb1⟩
                rw [HMm.out] at hok
                cases ok
                rotate_left
                · cases hok
                simp only [Ord.cells, Ins.cells, List.cons_append, List.nil_append]
                have HB1 := Lib.hid (HB.out.trans (hb1.mono HB.out.size))
                clear hok hb1)
              go_roundw
              case rel => exact ⟨k + 1, ⟨by omega, by go_num⟩, (opsGo_miss HMm.out).symm.trans HG2.out, (HB1.out.alloc HB1.out.size _)⟩
              case measure => simp [intOf]; omega
            | some mo =>
              go_wp2_with (
                go_at_call 57
                refine hmt.mono ?_
                rintro e w1 ⟨⟨⟨oo, oa, ob, oc, om⟩, on, oat⟩, ok, rfl, hok, hb1⟩
                rw [HMm.out] at hok
                cases ok
                · cases hok
                simp only [Ord.cells, Ins.cells, List.cons_append, List.nil_append]
                have HB1 := Lib.hid (HB.out.trans (hb1.mono HB.out.size))
                have HOk := Lib.hid hok
                clear hok hb1)
              go_ret
              refine .mk (r := some (.order ⟨⟨oo, oa, ob, oc, om⟩, on, oat⟩)) ?_ rfl (HB1.out.alloc HB1.out.size _)
              unfold parseP
              rw [HIm.out]
              simp only
              rw [← HG2.out, opsGo_hit HMm.out]
              have := HOk.out
              simp only [if_true] at this
              rw [this]; rfl
          · obtain rfl : k = 22 := by omega
            have HN : Hid (parseP [⟨xk, xt, xn, xa, xl⟩, ⟨yk, yt, yn, ya, yl⟩] = none) := by
              show _ = _
              unfold parseP
              rw [HIm.out]
              simp only
              rw [← HG.out]; rfl
            go_wp2
            go_ret
            exact .mk HN.out rfl HB.out
      · by_cases hyk : yk = 2
        · have g1 : (yk == 2) = true := beq_iff_eq.2 hyk
          by_cases hy : yt = ⟨#[58]⟩
          · rw [decide_eq_true hy] at hyt
            have HIm : Hid (isMark [⟨xk, xt, xn, xa, xl⟩, ⟨yk, yt, yn, ya, yl⟩] = some (xt, xa)) := by show _ = _; rw [him, if_pos ⟨hxk, rfl, hyk, hy⟩]
            clear him hxk hyk hy
            go_enter Tryd.func33, Tryd.ntmps33
            go_wp2_with (go_at_call 56; refine (free_any _ _).mono ?_; rintro e w' ⟨rfl, hbf⟩; rw [HFr.out]; have HBf := Lib.hid hbf; have q0 := (bcell hbf).1; have d0 := (q0 b (o + 5) hbB).trans e0; have d1 := (q0 b (o + 5 + 1) hbB).trans e1; have d2 := (q0 b (o + 1) hbB).trans c1; have d3 := (q0 b (o + 3) hbB).trans c3; clear hbf q0)
            go_quiet (fail)
            go_wp2
            go_ret
            refine .mk (r := some (.mark xt xa)) ?_ rfl ?_
            · unfold parseP; rw [HIm.out]
            · exact below_drewN HBf.out _
          · rw [decide_eq_false hy] at hyt
            have HIm : Hid (isMark [⟨xk, xt, xn, xa, xl⟩, ⟨yk, yt, yn, ya, yl⟩] = none) := by show _ = _; rw [him, if_neg (fun h => hy h.2.2.2)]
            clear him hxk hyk hy
            go_enter Tryd.func33, Tryd.ntmps33
            go_wp2_with (go_at_call 56; refine (free_any _ _).mono ?_; rintro e w' ⟨rfl, hbf⟩; rw [HFr.out]; have HBf := Lib.hid hbf; have q0 := (bcell hbf).1; have d0 := (q0 b (o + 5) hbB).trans e0; have d1 := (q0 b (o + 5 + 1) hbB).trans e1; have d2 := (q0 b (o + 1) hbB).trans c1; have d3 := (q0 b (o + 3) hbB).trans c3; clear hbf q0)
            go_loopw [47] (fun i wr => ∃ k : Nat, (k ≤ 22 ∧ i = .int .i64 k) ∧ Hid (opsGo [⟨xk, xt, xn, xa, xl⟩, ⟨yk, yt, yn, ya, yl⟩] (22 - k) k = opsGo [⟨xk, xt, xn, xa, xl⟩, ⟨yk, yt, yn, ya, yl⟩] 22 0) ∧ Hid (Below w.heap.size w wr)) (fun i _ => 22 - (intOf i).toNat)
            case atStart => exact ⟨0, ⟨by omega, rfl⟩, rfl, HBf.out⟩
            case round =>
              obtain ⟨k, ⟨hk, rfl⟩, HG, HB⟩ := hrel
              by_cases hlt : k < 22
              · have hlti : (k : Int) < 22 := by omega
                have HG2 : Hid (opsGo [⟨xk, xt, xn, xa, xl⟩, ⟨yk, yt, yn, ya, yl⟩] ((22 - (k + 1)) + 1) k = opsGo [⟨xk, xt, xn, xa, xl⟩, ⟨yk, yt, yn, ya, yl⟩] 22 0) := by have h := HG.out; rw [show 22 - k = (22 - (k + 1)) + 1 by omega] at h; exact h
                have hmt := match_any k hlt [⟨xk, xt, xn, xa, xl⟩, ⟨yk, yt, yn, ya, yl⟩] (some ⟨b, o, none⟩) 2 c wr ((HR.out.below HB.out).more HB.out.size) (by omega) (by omega)
                obtain ⟨mm, hmm⟩ : ∃ mm, matchP (k : Int) [⟨xk, xt, xn, xa, xl⟩, ⟨yk, yt, yn, ya, yl⟩] = mm := ⟨_, rfl⟩
                have HMm := Lib.hid hmm
                clear hmm
                cases mm with
                | none =>
                  go_wp2_with (
                    go_at_call 57
                    refine hmt.mono ?_
                    rintro e w1 ⟨⟨⟨oo, oa, ob, oc, om⟩, on, oat⟩, ok, rfl, hok, hb1⟩
                    rw [HMm.out] at hok
                    cases ok
                    rotate_left
                    · cases hok
                    simp only [Ord.cells, Ins.cells, List.cons_append, List.nil_append]
                    have HB1 := Lib.hid (HB.out.trans (hb1.mono HB.out.size))
                    clear hok hb1)
                  go_roundw
                  case rel => exact ⟨k + 1, ⟨by omega, by go_num⟩, (opsGo_miss HMm.out).symm.trans HG2.out, (HB1.out.alloc HB1.out.size _)⟩
                  case measure => simp [intOf]; omega
                | some mo =>
                  go_wp2_with (
                    go_at_call 57
                    refine hmt.mono ?_
                    rintro e w1 ⟨⟨⟨oo, oa, ob, oc, om⟩, on, oat⟩, ok, rfl, hok, hb1⟩
                    rw [HMm.out] at hok
                    cases ok
                    · cases hok
                    simp only [Ord.cells, Ins.cells, List.cons_append, List.nil_append]
                    have HB1 := Lib.hid (HB.out.trans (hb1.mono HB.out.size))
                    have HOk := Lib.hid hok
                    clear hok hb1)
                  go_ret
                  refine .mk (r := some (.order ⟨⟨oo, oa, ob, oc, om⟩, on, oat⟩)) ?_ rfl (HB1.out.alloc HB1.out.size _)
                  unfold parseP
                  rw [HIm.out]
                  simp only
                  rw [← HG2.out, opsGo_hit HMm.out]
                  have := HOk.out
                  simp only [if_true] at this
                  rw [this]; rfl
              · obtain rfl : k = 22 := by omega
                have HN : Hid (parseP [⟨xk, xt, xn, xa, xl⟩, ⟨yk, yt, yn, ya, yl⟩] = none) := by
                  show _ = _
                  unfold parseP
                  rw [HIm.out]
                  simp only
                  rw [← HG.out]; rfl
                go_wp2
                go_ret
                exact .mk HN.out rfl HB.out
        · have g1 : (yk == 2) = false := beq_eq_false_iff_ne.2 hyk
          have HIm : Hid (isMark [⟨xk, xt, xn, xa, xl⟩, ⟨yk, yt, yn, ya, yl⟩] = none) := by show _ = _; rw [him, if_neg (fun h => hyk h.2.2.1)]
          clear him hxk hyk hyt
          go_enter Tryd.func33, Tryd.ntmps33
          go_wp2_with (go_at_call 56; refine (free_any _ _).mono ?_; rintro e w' ⟨rfl, hbf⟩; rw [HFr.out]; have HBf := Lib.hid hbf; have q0 := (bcell hbf).1; have d0 := (q0 b (o + 5) hbB).trans e0; have d1 := (q0 b (o + 5 + 1) hbB).trans e1; have d2 := (q0 b (o + 1) hbB).trans c1; have d3 := (q0 b (o + 3) hbB).trans c3; clear hbf q0)
          go_loopw [47] (fun i wr => ∃ k : Nat, (k ≤ 22 ∧ i = .int .i64 k) ∧ Hid (opsGo [⟨xk, xt, xn, xa, xl⟩, ⟨yk, yt, yn, ya, yl⟩] (22 - k) k = opsGo [⟨xk, xt, xn, xa, xl⟩, ⟨yk, yt, yn, ya, yl⟩] 22 0) ∧ Hid (Below w.heap.size w wr)) (fun i _ => 22 - (intOf i).toNat)
          case atStart => exact ⟨0, ⟨by omega, rfl⟩, rfl, HBf.out⟩
          case round =>
            obtain ⟨k, ⟨hk, rfl⟩, HG, HB⟩ := hrel
            by_cases hlt : k < 22
            · have hlti : (k : Int) < 22 := by omega
              have HG2 : Hid (opsGo [⟨xk, xt, xn, xa, xl⟩, ⟨yk, yt, yn, ya, yl⟩] ((22 - (k + 1)) + 1) k = opsGo [⟨xk, xt, xn, xa, xl⟩, ⟨yk, yt, yn, ya, yl⟩] 22 0) := by have h := HG.out; rw [show 22 - k = (22 - (k + 1)) + 1 by omega] at h; exact h
              have hmt := match_any k hlt [⟨xk, xt, xn, xa, xl⟩, ⟨yk, yt, yn, ya, yl⟩] (some ⟨b, o, none⟩) 2 c wr ((HR.out.below HB.out).more HB.out.size) (by omega) (by omega)
              obtain ⟨mm, hmm⟩ : ∃ mm, matchP (k : Int) [⟨xk, xt, xn, xa, xl⟩, ⟨yk, yt, yn, ya, yl⟩] = mm := ⟨_, rfl⟩
              have HMm := Lib.hid hmm
              clear hmm
              cases mm with
              | none =>
                go_wp2_with (
                  go_at_call 57
                  refine hmt.mono ?_
                  rintro e w1 ⟨⟨⟨oo, oa, ob, oc, om⟩, on, oat⟩, ok, rfl, hok, hb1⟩
                  rw [HMm.out] at hok
                  cases ok
                  rotate_left
                  · cases hok
                  simp only [Ord.cells, Ins.cells, List.cons_append, List.nil_append]
                  have HB1 := Lib.hid (HB.out.trans (hb1.mono HB.out.size))
                  clear hok hb1)
                go_roundw
                case rel => exact ⟨k + 1, ⟨by omega, by go_num⟩, (opsGo_miss HMm.out).symm.trans HG2.out, (HB1.out.alloc HB1.out.size _)⟩
                case measure => simp [intOf]; omega
              | some mo =>
                go_wp2_with (
                  go_at_call 57
                  refine hmt.mono ?_
                  rintro e w1 ⟨⟨⟨oo, oa, ob, oc, om⟩, on, oat⟩, ok, rfl, hok, hb1⟩
                  rw [HMm.out] at hok
                  cases ok
                  · cases hok
                  simp only [Ord.cells, Ins.cells, List.cons_append, List.nil_append]
                  have HB1 := Lib.hid (HB.out.trans (hb1.mono HB.out.size))
                  have HOk := Lib.hid hok
                  clear hok hb1)
                go_ret
                refine .mk (r := some (.order ⟨⟨oo, oa, ob, oc, om⟩, on, oat⟩)) ?_ rfl (HB1.out.alloc HB1.out.size _)
                unfold parseP
                rw [HIm.out]
                simp only
                rw [← HG2.out, opsGo_hit HMm.out]
                have := HOk.out
                simp only [if_true] at this
                rw [this]; rfl
            · obtain rfl : k = 22 := by omega
              have HN : Hid (parseP [⟨xk, xt, xn, xa, xl⟩, ⟨yk, yt, yn, ya, yl⟩] = none) := by
                show _ = _
                unfold parseP
                rw [HIm.out]
                simp only
                rw [← HG.out]; rfl
              go_wp2
              go_ret
              exact .mk HN.out rfl HB.out
    · have g0 : (xk == 0) = false := beq_eq_false_iff_ne.2 hxk
      have HIm : Hid (isMark [⟨xk, xt, xn, xa, xl⟩, ⟨yk, yt, yn, ya, yl⟩] = none) := by show _ = _; rw [him, if_neg (fun h => hxk h.1)]
      clear him hxk hyt
      go_enter Tryd.func33, Tryd.ntmps33
      go_wp2
      go_loopw [47] (fun i wr => ∃ k : Nat, (k ≤ 22 ∧ i = .int .i64 k) ∧ Hid (opsGo [⟨xk, xt, xn, xa, xl⟩, ⟨yk, yt, yn, ya, yl⟩] (22 - k) k = opsGo [⟨xk, xt, xn, xa, xl⟩, ⟨yk, yt, yn, ya, yl⟩] 22 0) ∧ Hid (Below w.heap.size w wr)) (fun i _ => 22 - (intOf i).toNat)
      case atStart => exact ⟨0, ⟨by omega, rfl⟩, rfl, (Below.refl _ _)⟩
      case round =>
        obtain ⟨k, ⟨hk, rfl⟩, HG, HB⟩ := hrel
        by_cases hlt : k < 22
        · have hlti : (k : Int) < 22 := by omega
          have HG2 : Hid (opsGo [⟨xk, xt, xn, xa, xl⟩, ⟨yk, yt, yn, ya, yl⟩] ((22 - (k + 1)) + 1) k = opsGo [⟨xk, xt, xn, xa, xl⟩, ⟨yk, yt, yn, ya, yl⟩] 22 0) := by have h := HG.out; rw [show 22 - k = (22 - (k + 1)) + 1 by omega] at h; exact h
          have hmt := match_any k hlt [⟨xk, xt, xn, xa, xl⟩, ⟨yk, yt, yn, ya, yl⟩] (some ⟨b, o, none⟩) 2 c wr ((HR.out.below HB.out).more HB.out.size) (by omega) (by omega)
          obtain ⟨mm, hmm⟩ : ∃ mm, matchP (k : Int) [⟨xk, xt, xn, xa, xl⟩, ⟨yk, yt, yn, ya, yl⟩] = mm := ⟨_, rfl⟩
          have HMm := Lib.hid hmm
          clear hmm
          cases mm with
          | none =>
            go_wp2_with (
              go_at_call 57
              refine hmt.mono ?_
              rintro e w1 ⟨⟨⟨oo, oa, ob, oc, om⟩, on, oat⟩, ok, rfl, hok, hb1⟩
              rw [HMm.out] at hok
              cases ok
              rotate_left
              · cases hok
              simp only [Ord.cells, Ins.cells, List.cons_append, List.nil_append]
              have HB1 := Lib.hid (HB.out.trans (hb1.mono HB.out.size))
              clear hok hb1)
            go_roundw
            case rel => exact ⟨k + 1, ⟨by omega, by go_num⟩, (opsGo_miss HMm.out).symm.trans HG2.out, (HB1.out.alloc HB1.out.size _)⟩
            case measure => simp [intOf]; omega
          | some mo =>
            go_wp2_with (
              go_at_call 57
              refine hmt.mono ?_
              rintro e w1 ⟨⟨⟨oo, oa, ob, oc, om⟩, on, oat⟩, ok, rfl, hok, hb1⟩
              rw [HMm.out] at hok
              cases ok
              · cases hok
              simp only [Ord.cells, Ins.cells, List.cons_append, List.nil_append]
              have HB1 := Lib.hid (HB.out.trans (hb1.mono HB.out.size))
              have HOk := Lib.hid hok
              clear hok hb1)
            go_ret
            refine .mk (r := some (.order ⟨⟨oo, oa, ob, oc, om⟩, on, oat⟩)) ?_ rfl (HB1.out.alloc HB1.out.size _)
            unfold parseP
            rw [HIm.out]
            simp only
            rw [← HG2.out, opsGo_hit HMm.out]
            have := HOk.out
            simp only [if_true] at this
            rw [this]; rfl
        · obtain rfl : k = 22 := by omega
          have HN : Hid (parseP [⟨xk, xt, xn, xa, xl⟩, ⟨yk, yt, yn, ya, yl⟩] = none) := by
            show _ = _
            unfold parseP
            rw [HIm.out]
            simp only
            rw [← HG.out]; rfl
          go_wp2
          go_ret
          exact .mk HN.out rfl HB.out
  · have HIm : Hid (isMark l = none) := isMark_len (by omega)
    have g2 : ((n : Int) == 2) = false := by rw [beq_eq_false_iff_ne]; omega
    clear hr hlen
    go_enter Tryd.func33, Tryd.ntmps33
    go_wp2
    go_loopw [47] (fun i wr => ∃ k : Nat, (k ≤ 22 ∧ i = .int .i64 k) ∧ Hid (opsGo l (22 - k) k = opsGo l 22 0) ∧ Hid (Below w.heap.size w wr)) (fun i _ => 22 - (intOf i).toNat)
    case atStart => exact ⟨0, ⟨by omega, rfl⟩, rfl, (Below.refl _ _)⟩
    case round =>
      obtain ⟨k, ⟨hk, rfl⟩, HG, HB⟩ := hrel
      by_cases hlt : k < 22
      · have hlti : (k : Int) < 22 := by omega
        have HG2 : Hid (opsGo l ((22 - (k + 1)) + 1) k = opsGo l 22 0) := by have h := HG.out; rw [show 22 - k = (22 - (k + 1)) + 1 by omega] at h; exact h
        have hmt := match_any k hlt l A n c wr ((HR.out.below HB.out).more HB.out.size) (by omega) (by omega)
        obtain ⟨mm, hmm⟩ : ∃ mm, matchP (k : Int) l = mm := ⟨_, rfl⟩
        have HMm := Lib.hid hmm
        clear hmm
        cases mm with
        | none =>
          go_wp2_with (
            go_at_call 57
            refine hmt.mono ?_
            rintro e w1 ⟨⟨⟨oo, oa, ob, oc, om⟩, on, oat⟩, ok, rfl, hok, hb1⟩
            rw [HMm.out] at hok
            cases ok
            rotate_left
            · cases hok
            simp only [Ord.cells, Ins.cells, List.cons_append, List.nil_append]
            have HB1 := Lib.hid (HB.out.trans (hb1.mono HB.out.size))
            clear hok hb1)
          go_roundw
          case rel => exact ⟨k + 1, ⟨by omega, by go_num⟩, (opsGo_miss HMm.out).symm.trans HG2.out, (HB1.out.alloc HB1.out.size _)⟩
          case measure => simp [intOf]; omega
        | some mo =>
          go_wp2_with (
            go_at_call 57
            refine hmt.mono ?_
            rintro e w1 ⟨⟨⟨oo, oa, ob, oc, om⟩, on, oat⟩, ok, rfl, hok, hb1⟩
            rw [HMm.out] at hok
            cases ok
            · cases hok
            simp only [Ord.cells, Ins.cells, List.cons_append, List.nil_append]
            have HB1 := Lib.hid (HB.out.trans (hb1.mono HB.out.size))
            have HOk := Lib.hid hok
            clear hok hb1)
          go_ret
          refine .mk (r := some (.order ⟨⟨oo, oa, ob, oc, om⟩, on, oat⟩)) ?_ rfl (HB1.out.alloc HB1.out.size _)
          unfold parseP
          rw [HIm.out]
          simp only
          rw [← HG2.out, opsGo_hit HMm.out]
          have := HOk.out
          simp only [if_true] at this
          rw [this]; rfl
      · obtain rfl : k = 22 := by omega
        have HN : Hid (parseP l = none) := by
          show _ = _
          unfold parseP
          rw [HIm.out]
          simp only
          rw [← HG.out]; rfl
        go_wp2
        go_ret
        exact .mk HN.out rfl HB.out
end Go.Proofs.YthdlihiehfkceaaDoor
