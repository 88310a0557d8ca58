/-
  Chapter 2: contract of reader.rune1.
-/
import Derived.Test.YthklmcpjlpaklaaDoorGlyD
namespace Go.Proofs.YthklmcpjlpaklaaDoor
open Go.RowKit
set_option linter.unusedVariables false

theorem letter_is {c : Nat} {b : Bool} (w : World) (h : isLetter c = b) : Calls Tryd.prog 41 #[.int .i32 c] w fun e w' => e = .returned (.bool b) ∧ w = w' := by
  subst h; exact letter_any c w
/-- Whether a rune stands within a run, or begins one. -/
def inRun (c : Nat) (st : LSt) : Bool := isLetter c || isDigit c || (c == 46 && st.from_.isSome)
theorem runeP_in {s : ByteArray} {at_ c : Nat} {st : LSt} (h : inRun c st = true) (hr : st.remark = false) : runeP s at_ c st = (0, 0, if st.from_.isSome then st else { st with from_ := some at_ }) := by
  have e : ((isLetter c || isDigit c || (c == 46 && st.from_.isSome)) && !st.remark) = true := by
    rw [hr]; simpa [inRun] using h
  rw [runeP, if_pos e]
theorem runeP_out {s : ByteArray} {at_ c : Nat} {st st1 : LSt} {p e : Int} (h : inRun c st = false ∨ st.remark = true) (hs : shutP s at_ st = (p, e, st1)) : runeP s at_ c st =
    (if e ≠ 0 then (p, e, st1)
      else if c = 10 then ((at_ : Int), (putP { st1 with remark := false } { kind := 3, text := ⟨#[]⟩, num := 0, at_ := at_, line := 0 }).1, { (putP { st1 with remark := false } { kind := 3, text := ⟨#[]⟩, num := 0, at_ := at_, line := 0 }).2 with line := (putP { st1 with remark := false } { kind := 3, text := ⟨#[]⟩, num := 0, at_ := at_, line := 0 }).2.line + 1 })
      else if st1.remark ∨ c = 32 ∨ c = 9 ∨ c = 13 then (0, 0, st1)
      else if c = 35 then (0, 0, { st1 with remark := true })
      else if isSign c then ((at_ : Int), putP st1 { kind := 2, text := Utf8.encode (c : Int), num := 0, at_ := at_, line := 0 })
      else ((at_ : Int), 20, st1)) := by
  have e' : ¬ ((isLetter c || isDigit c || (c == 46 && st.from_.isSome)) && !st.remark) = true := by
    rcases h with h | h
    · have : (isLetter c || isDigit c || (c == 46 && st.from_.isSome)) = false := h
      rw [this]; simp
    · rw [h]; simp
  rw [runeP, if_neg e', hs]
theorem putP_line (st : LSt) (t : Tok) : (putP st t).2.line = st.line := by unfold putP; split <;> rfl
theorem putP_remark (st : LSt) (t : Tok) : (putP st t).2.remark = st.remark := by unfold putP; split <;> rfl
theorem putP_from (st : LSt) (t : Tok) : (putP st t).2.from_ = st.from_ := by unfold putP; split <;> rfl
theorem putP_len {st : LSt} (t : Tok) (h : st.list.length ≤ 16384) : (putP st t).2.list.length ≤ 16384 := by
  unfold putP
  split
  · exact h
  · simp; omega
theorem shutP_kept {s : ByteArray} {z : Nat} {st : LSt} : (shutP s z st).2.2.line = st.line ∧ (shutP s z st).2.2.remark = st.remark ∧ (shutP s z st).2.2.from_ = none ∧ (st.list.length ≤ 16384 → (shutP s z st).2.2.list.length ≤ 16384) := by
  cases hf : st.from_ with
  | none => rw [shutP, hf]; exact ⟨rfl, rfl, hf, fun h => h⟩
  | some a =>
    rw [shutP_some hf rfl]
    split
    · split
      · exact ⟨rfl, rfl, rfl, fun h => h⟩
      · exact ⟨putP_line _ _, putP_remark _ _, putP_from _ _, fun h => putP_len _ h⟩
    · split
      · exact ⟨rfl, rfl, rfl, fun h => h⟩
      · exact ⟨putP_line _ _, putP_remark _ _, putP_from _ _, fun h => putP_len _ h⟩

def RunePost (g : Nat) (s : ByteArray) (at_ c : Nat) (st : LSt) (w : World) (e : Ending) (w' : World) : Prop :=
  e = .returned (.tuple #[.int .i64 (runeP s at_ c st).1, .int .i64 (runeP s at_ c st).2.1]) ∧ Rdr w' g s (runeP s at_ c st).2.2 ∧ Frm g w w'
theorem RunePost.mk {g : Nat} {s : ByteArray} {at_ c : Nat} {st st' : LSt} {w w' : World} {p e : Int} (h : runeP s at_ c st = (p, e, st')) (hr : Rdr w' g s st') (hf : Frm g w w') :
    RunePost g s at_ c st w (.returned (.tuple #[.int .i64 p, .int .i64 e])) w' := by
  refine ⟨by rw [h], by rw [h]; exact hr, hf⟩

set_option maxRecDepth 100000 in
set_option maxHeartbeats 8000000 in
theorem rune_any (g : Nat) (s : ByteArray) (at_ c : Nat) (st : LSt) (w : World) (hR : Rdr w g s st) (hl : st.list.length ≤ 16384) (hs : s.size ≤ 65536) (hat : at_ ≤ s.size) (hfrom : ∀ a, st.from_ = some a → a < at_) (hline : st.line ≤ 65536) (hc : c ≤ 2147483647) :
    Calls Tryd.prog 32 #[.pointer (some ⟨g, 0, none⟩), .int .i64 (at_ : Int), .int .i32 (c : Int)] w (RunePost g s at_ c st w) := by
  have hg := hR.lt
  obtain ⟨A, cc, hcc, k0, k1, k2, k3, k4, kf, _, _⟩ := hR.cells
  have f3 := kf 3
  clear kf hcc
  have HR := Lib.hid hR
  obtain ⟨ir, hir⟩ : ∃ ir, inRun c st = ir := ⟨_, rfl⟩
  have HIR := Lib.hid hir
  have hfs : (st.fromI = -1 ∧ Hid (st.from_ = none)) ∨ (∃ a : Nat, st.fromI = (a : Int) ∧ Hid (st.from_ = some a)) := by
    cases hf : st.from_ with
    | none => exact .inl ⟨by rw [LSt.fromI, hf], rfl⟩
    | some a => exact .inr ⟨a, by rw [LSt.fromI, hf], rfl⟩
  have HFR := Lib.hid hfrom
  have HLn := Lib.hid hl
  obtain ⟨rm, hrm⟩ : ∃ rm, st.remark = rm := ⟨_, rfl⟩
  rw [hrm] at k4
  have HRM := Lib.hid hrm
  clear hR hfrom hl hrm hir
  obtain ⟨fI, hfI⟩ : ∃ fI, st.fromI = fI := ⟨_, rfl⟩
  rw [hfI] at k3
  rw [hfI] at hfs
  clear hfI
  go_enter Tryd.func32, Tryd.ntmps32
  go_upto_region 1 with fail
  go_cut [8] (fun s8 wx => s8 = .bool ir ∧ wx = w)
  case first =>
    cases hL : isLetter c
    · cases hD : isDigit c
      · by_cases h46 : c = 46
        · subst h46
          rcases hfs with ⟨rfl, HF⟩ | ⟨a, rfl, HF⟩
          · have HI : Hid (ir = false) := by show _ = _; rw [← HIR.out, inRun, hL, hD, HF.out]; rfl
            have H1 := Lib.hid hL
            have H2 := Lib.hid hD
            clear hL hD
            go_wp2_with (first | (go_at_call 41; refine (letter_is (c := 46) _ H1.out).mono ?_; rintro e w1 ⟨rfl, rfl⟩) | (go_at_call 42; refine (digit_is (c := 46) _ H2.out).mono ?_; rintro e w1 ⟨rfl, rfl⟩))
            go_meet
            exact ⟨by rw [HI.out], rfl⟩
          · have HI : Hid (ir = true) := by show _ = _; rw [← HIR.out, inRun, hL, hD, HF.out]; rfl
            have H1 := Lib.hid hL
            have H2 := Lib.hid hD
            clear hL hD
            go_wp2_with (first | (go_at_call 41; refine (letter_is (c := 46) _ H1.out).mono ?_; rintro e w1 ⟨rfl, rfl⟩) | (go_at_call 42; refine (digit_is (c := 46) _ H2.out).mono ?_; rintro e w1 ⟨rfl, rfl⟩))
            go_meet
            exact ⟨by rw [HI.out], rfl⟩
        · have HI : Hid (ir = false) := by
            show _ = _
            have : (c == 46) = false := by simpa using h46
            rw [← HIR.out, inRun, hL, hD, this]; rfl
          have hb46 : ((c : Int) == 46) = false := by simp; omega
          have H1 := Lib.hid hL
          have H2 := Lib.hid hD
          clear hL hD
          go_wp2_with (first | (go_at_call 41; refine (letter_is _ H1.out).mono ?_; rintro e w1 ⟨rfl, rfl⟩) | (go_at_call 42; refine (digit_is _ H2.out).mono ?_; rintro e w1 ⟨rfl, rfl⟩))
          go_meet
          exact ⟨by rw [HI.out], rfl⟩
      · have HI : Hid (ir = true) := by show _ = _; rw [← HIR.out, inRun, hL, hD]; rfl
        have H1 := Lib.hid hL
        have H2 := Lib.hid hD
        clear hL hD
        go_wp2_with (first | (go_at_call 41; refine (letter_is _ H1.out).mono ?_; rintro e w1 ⟨rfl, rfl⟩) | (go_at_call 42; refine (digit_is _ H2.out).mono ?_; rintro e w1 ⟨rfl, rfl⟩))
        go_meet
        exact ⟨by rw [HI.out], rfl⟩
    · have HI : Hid (ir = true) := by show _ = _; rw [← HIR.out, inRun, hL]; rfl
      have H1 := Lib.hid hL
      clear hL
      go_wp2_with (go_at_call 41; refine (letter_is _ H1.out).mono ?_; rintro e w1 ⟨rfl, rfl⟩)
      go_meet
      exact ⟨by rw [HI.out], rfl⟩
  case rest =>
    obtain ⟨rfl, rfl⟩ := hcut
    by_cases hin : ir = true ∧ rm = false
    · obtain ⟨rfl, rfl⟩ := hin
      have HE := Lib.hid (runeP_in (s := s) (at_ := at_) HIR.out HRM.out)
      rcases hfs with ⟨rfl, HF⟩ | ⟨a, rfl, HF⟩
      · have HE2 : Hid (runeP s at_ c st = (0, 0, { st with from_ := some at_ })) := by show _ = _; rw [HE.out, HF.out]; rfl
        go_wp2
        go_ret2
        exact .mk HE2.out (HR.out.from (some at_)) ((Frm.refl _ _).setCell 3 _)
      · have HE2 : Hid (runeP s at_ c st = (0, 0, st)) := by show _ = _; rw [HE.out, HF.out]; rfl
        go_wp2
        go_ret2
        exact .mk HE2.out HR.out (Frm.refl _ _)
    · have hout : Hid (inRun c st = false ∨ st.remark = true) := by
        show _ ∨ _
        rw [HIR.out, HRM.out]
        cases ir <;> cases rm <;> simp_all
      obtain ⟨p, hp⟩ : ∃ p, (shutP s at_ st).1 = p := ⟨_, rfl⟩
      obtain ⟨ec, hec⟩ : ∃ ec, (shutP s at_ st).2.1 = ec := ⟨_, rfl⟩
      obtain ⟨st1, hst1⟩ : ∃ st1, (shutP s at_ st).2.2 = st1 := ⟨_, rfl⟩
      have HE := Lib.hid (runeP_out hout.out (Prod.ext_iff.2 ⟨hp, Prod.ext_iff.2 ⟨hec, hst1⟩⟩ : shutP s at_ st = (p, ec, st1)))
      obtain ⟨q1, q2, q3, q4⟩ := shutP_kept (s := s) (z := at_) (st := st)
      rw [hst1] at q1 q2 q3 q4
      have Q1 := Lib.hid q1
      have Q2 := Lib.hid q2
      have Q4 := Lib.hid (q4 HLn.out)
      have HP : Hid (∀ w', ShutPost g s at_ st wc (.returned (.tuple #[.int .i64 p, .int .i64 ec])) w' → Rdr w' g s st1 ∧ Frm g wc w') := by
        intro w' h
        rw [← hst1]
        exact h.2
      have HSh : Hid (∀ e w', ShutPost g s at_ st wc e w' → e = .returned (.tuple #[.int .i64 p, .int .i64 ec])) := by
        intro e w' h
        rw [h.1, hp, hec]
      clear q1 q2 q3 q4 hp hec hst1
      go_upto_region 2 with fail
      go_cut [36] (fun s36 wx => s36 = .bool false ∧ wx = wc)
      case first =>
        cases ir
        · go_wp2
          go_meet
          exact ⟨rfl, rfl⟩
        · cases rm
          · exact absurd ⟨rfl, rfl⟩ hin
          · go_wp2
            go_meet
            exact ⟨rfl, rfl⟩
      case rest =>
        obtain ⟨rfl, rfl⟩ := hcut
        clear hin
        go_wp2_with fail
        refine (shut_any g s at_ st _ HR.out HLn.out hs hat HFR.out).mono ?_
        intro e w1 hpost
        obtain rfl := HSh.out _ _ hpost
        obtain ⟨hr1, hf1⟩ := HP.out _ hpost
        have HR1 := Lib.hid hr1
        have HF1 := Lib.hid hf1
        clear hpost hr1 hf1 HSh HP
        by_cases he : ec = 0
        · subst he
          obtain ⟨A, cc, hcc, k0, k1, k2, k3, k4, kf, _, _⟩ := HR1.out.cells
          have f4 := kf 4
          have f2 := kf 2
          have hg1 := HR1.out.lt
          clear kf hcc
          rw [Q2.out, HRM.out] at k4
          by_cases h10 : c = 10
          · subst h10
            have HE2 := HE.out
            rw [if_neg (by simp), if_pos rfl] at HE2
            have HEE := Lib.hid HE2
            clear HE2
            have HRr := Lib.hid (HR1.out.remark false)
            have HFr := Lib.hid (HF1.out.setCell 4 (.bool false))
            obtain ⟨T, hT⟩ : ∃ T : Tok, ({ kind := 3, text := ⟨#[]⟩, num := 0, at_ := at_, line := 0 } : Tok) = T := ⟨_, rfl⟩
            have HT := Lib.hid hT
            clear hT
            go_wp2_with fail
            refine (put_any g s { st1 with remark := false } { kind := 3, text := ⟨#[]⟩, num := 0, at_ := at_, line := 0 } _ HRr.out Q4.out).mono ?_
            rintro e w2 ⟨rfl, hr2, hf2⟩
            rw [HT.out] at hr2 ⊢
            rw [HT.out] at HEE
            obtain ⟨e2, he2⟩ : ∃ e2, (putP { st1 with remark := false } T).1 = e2 := ⟨_, rfl⟩
            obtain ⟨st2, hst2⟩ : ∃ st2, (putP { st1 with remark := false } T).2 = st2 := ⟨_, rfl⟩
            have hl2 : st2.line = st.line := by rw [← hst2, putP_line]; exact Q1.out
            rw [hst2] at hr2
            rw [he2]
            rw [he2, hst2] at HEE
            obtain ⟨A2, cc2, hcc2, k0', k1', k2', k3', k4', kf', _, _⟩ := hr2.cells
            have f2' := kf' 2
            have hg2 := hr2.lt
            rw [hl2] at k2'
            have HR2 := Lib.hid (hr2.line (st2.line + 1))
            rw [hl2] at HR2
            have HF2 := Lib.hid (HFr.out.trans (hf2.setCell 2 (.int .i64 ((st2.line + 1 : Nat) : Int))))
            rw [hl2] at HF2 HEE
            have hadd : ((st.line + 1 : Nat) : Int) = (st.line : Int) + 1 := by omega
            rw [hadd] at HR2 HF2
            clear hr2 hf2 hst2 he2 hl2 hadd kf' hcc2 k0 k1 k2 k3 k4 f4 f2
            go_wp2
            go_ret2
            exact .mk HEE.out HR2.out HF2.out
          · have hb10 : ((c : Int) == 10) = false := by simp; omega
            have HE2 := HE.out
            rw [if_neg (by simp), if_neg h10] at HE2
            by_cases hbl : st1.remark = true ∨ c = 32 ∨ c = 9 ∨ c = 13
            · rw [if_pos hbl] at HE2
              have HEE := Lib.hid HE2
              rw [Q2.out, HRM.out] at hbl
              clear HE2
              have hbl' : rm = true ∨ (rm = false ∧ c = 32) ∨ (rm = false ∧ ((c : Int) == 32) = false ∧ c = 9) ∨ (rm = false ∧ ((c : Int) == 32) = false ∧ ((c : Int) == 9) = false ∧ c = 13) := by
                cases rm
                · simp only [Bool.false_eq_true, false_or] at hbl
                  rcases hbl with rfl | rfl | rfl <;> simp
                · exact .inl rfl
              clear hbl
              rcases hbl' with rfl | ⟨rfl, rfl⟩ | ⟨rfl, g1, rfl⟩ | ⟨rfl, g1, g2, rfl⟩
              all_goals
                go_wp2
                go_ret2
                exact .mk HEE.out HR1.out HF1.out
            · rw [if_neg hbl] at HE2
              rw [Q2.out, HRM.out] at hbl
              obtain rfl : rm = false := by cases rm <;> simp_all
              have g1 : ((c : Int) == 32) = false := by simp; omega
              have g2 : ((c : Int) == 9) = false := by simp; omega
              have g3 : ((c : Int) == 13) = false := by simp; omega
              clear hbl
              by_cases h35 : c = 35
              · subst h35
                rw [if_pos rfl] at HE2
                have HEE := Lib.hid HE2
                clear HE2
                go_wp2
                go_ret2
                exact .mk HEE.out (HR1.out.remark true) (HF1.out.setCell 4 _)
              · have g4 : ((c : Int) == 35) = false := by simp; omega
                rw [if_neg h35] at HE2
                have HEE := Lib.hid HE2
                clear HE2
                have hcv : ∀ Wd, (convert 21 9 (.int .i32 (c : Int))).run Tryd.prog Wd = .ok (.string (Utf8.encode (c : Int))) Wd := fun Wd => run_convert_int_string Wd _ _ _ _ (by kernel_rfl) Tryd.underlying9
                generalize Utf8.encode (c : Int) = enc at hcv HEE
                go_wp2_with fail
                refine (sign_any c hc _).mono ?_
                rintro e w2 ⟨rfl, hb2⟩
                have HR2 := Lib.hid (HR1.out.below hb2)
                have HF2 := Lib.hid (HF1.out.trans (Frm.of_below (by omega) hb2))
                clear hb2 k0 k1 k2 k3 k4 f4 f2
                cases hsg : isSign c
                · rw [hsg] at HEE
                  have HE3 : Hid (runeP s at_ c st = ((at_ : Int), 20, st1)) := HEE.out
                  clear hsg HEE
                  go_wp2
                  go_ret2
                  exact .mk HE3.out HR2.out HF2.out
                · rw [hsg] at HEE
                  have HE3 : Hid (runeP s at_ c st = ((at_ : Int), putP st1 { kind := 2, text := enc, num := 0, at_ := at_, line := 0 })) := HEE.out
                  clear hsg HEE
                  go_wp2_with fail
                  refine (put_any g s st1 { kind := 2, text := enc, num := 0, at_ := at_, line := 0 } _ HR2.out Q4.out).mono ?_
                  rintro e w3 ⟨rfl, hr3, hf3⟩
                  have HR3 := Lib.hid hr3
                  have HF3 := Lib.hid (HF2.out.trans hf3)
                  clear hr3 hf3
                  go_wp2
                  go_ret2
                  exact .mk HE3.out HR3.out HF3.out
        · have hne : (ec == 0) = false := by simpa using he
          have HE2 : Hid (runeP s at_ c st = (p, ec, st1)) := by show _ = _; rw [HE.out, if_pos he]
          go_wp2
          go_ret2
          exact .mk HE2.out HR1.out HF1.out
end Go.Proofs.YthklmcpjlpaklaaDoor
