/-
  Texts of one proof, joined (wip/gen/pack.py): AsmR, AsmS, AsmT, LawA1, Open, OpenT.
-/
import Derived.Test.YthdlihiehfkceaaDoorPtAH
import Derived.Deep.QuietTactic
import Derived.BigQuiet
import Derived.Test.YthdlihiehfkceaaDoorPtAA
import Derived.ProofKit
import Derived.OpenShut
import Derived.ShutString
import Derived.ChangeOld
import Derived.Carry
import Derived.Deep.Slices
import Derived.Deep.Fields
import Derived.Test.YthdlihiehfkceaaDoorRows
import Derived.Test.YthdlihiehfkceaaDoorPtAG
import Derived.Lib.LaidTab
import Derived.Lay
import Derived.MakeChecks
namespace Go.Proofs.YthdlihiehfkceaaDoor
open Go.RowKit
set_option linter.unusedVariables false

theorem rgoes_any (op : Int) (w : World) : Calls Tryd.prog 19 #[.int .i64 op] w fun e w' => e = .returned (.bool (goesP op)) ∧ w' = w := by
  have HG : Hid (goesP op = (decide (17 ≤ op) && decide (op ≤ 19))) := by
    show _ = _
    unfold goesP
    rw [Bool.eq_iff_iff]
    simp only [Bool.or_eq_true, Bool.and_eq_true, decide_eq_true_eq]
    omega
  by_cases h1 : 17 ≤ op
  · go_enter Tryd.func19, Tryd.ntmps19
    go_wp2
    go_ret
    exact ⟨ret_bool (by rw [HG.out]; simp [h1]), rfl⟩
  · go_enter Tryd.func19, Tryd.ntmps19
    go_wp2
    go_ret
    exact ⟨ret_bool (by rw [HG.out]; simp; omega), rfl⟩
theorem rforth_any (op a b : Int) (w : World) : Calls Tryd.prog 30 #[.int .i64 op, .int .i64 a, .int .i64 b] w fun e w' => e = .returned (.bool (forthP op a b)) ∧ w' = w := by
  by_cases h : op = 19
  · have HG : Hid (forthP op a b = decide (b ≤ a)) := by show _ = _; rw [forthP, if_pos h]
    have h1 : (op == 19) = true := beq_iff_eq.2 h
    have h2 : (op != 19) = false := by simp [h]
    by_cases hb : b ≤ a
    · go_enter Tryd.func30, Tryd.ntmps30
      clear h
      go_wp2
      go_ret
      exact ⟨ret_bool (by rw [HG.out]; simp [hb]), rfl⟩
    · go_enter Tryd.func30, Tryd.ntmps30
      clear h
      go_wp2
      go_ret
      exact ⟨ret_bool (by rw [HG.out]; simp [hb]), rfl⟩
  · have HG : Hid (forthP op a b = decide (a < b)) := by show _ = _; rw [forthP, if_neg h]
    have h1 : (op == 19) = false := beq_eq_false_iff_ne.2 h
    have h2 : (op != 19) = true := by simp [h]
    go_enter Tryd.func30, Tryd.ntmps30
    clear h
    go_wp2
    go_ret
    exact ⟨ret_bool (by rw [HG.out]), rfl⟩
/-- A register's name is its letter and its digits. -/
theorem regName_dec (x : Nat) (h : x < 16) : (⟨#[114]⟩ : ByteArray) ++ ⟨(Lib.decDigits x).toArray⟩ = regName x := by
  have : ∀ y : Fin 16, (⟨#[114]⟩ : ByteArray) ++ ⟨(Lib.decDigits y.val).toArray⟩ = regName y.val := by decide +kernel
  exact this ⟨x, h⟩
theorem rreg_any (x : Nat) (h : x < 16) (w : World) : Calls Tryd.prog 52 #[.int .i64 x] w fun e w' => e = .returned (.string (regName x)) ∧ Below w.heap.size w w' := by
  have hdl : (Lib.decDigits x).length ≤ 20 := by rw [Lib.decDigits_length]; exact Lib.nDigits_le20 x (by omega)
  have HE := Lib.hid (regName_dec x h)
  go_enter Tryd.func52, Tryd.ntmps52
  go_wp2_with (go_at_call 28; refine (rdigits_any x (by omega) _).mono ?_; rintro e w' ⟨rfl, hb⟩)
  go_ret
  exact ⟨by rw [← HE.out]; rfl, hb⟩
theorem rgoes_is (op : Int) (w : World) {z : Bool} (hz : goesP op = z) : Calls Tryd.prog 19 #[.int .i64 op] w fun e w' => e = .returned (.bool z) ∧ w' = w := by
  subst hz; exact rgoes_any op w
theorem rforth_is (op a b : Int) (w : World) {z : Bool} (hz : forthP op a b = z) : Calls Tryd.prog 30 #[.int .i64 op, .int .i64 a, .int .i64 b] w fun e w' => e = .returned (.bool z) ∧ w' = w := by
  subst hz; exact rforth_any op a b w
def jumpOk (n : Nat) (i : Ins) (k : Nat) : Bool := !goesP i.op || (decide (i.imm ≤ (n : Int)) && forthP i.op k i.imm)
def fitsGo (n : Nat) : List Ins → Nat → Bool
  | [], _ => true
  | i :: r, k => jumpOk n i k && fitsGo n r (k + 1)
/-- Has a program a text? -/
def fitsP (code : List Ins) : Bool := decide (code.length ≤ 256) && code.all Ins.plain && fitsGo code.length code 0
theorem targ_some (n : Nat) : ∀ (l : List Ins) (k : Nat) (c0 : Int → Nat), l.all Ins.plain = true → fitsGo n l k = true →
    ∃ c, targGo n l k c0 = some c ∧ ∀ x, 0 < c x ↔ (0 < c0 x ∨ ∃ i ∈ l, goesP i.op = true ∧ i.imm = x)
  | [], k, c0, _, _ => ⟨c0, rfl, fun x => by simp⟩
  | i :: r, k, c0, hp, hf => by
    simp only [List.all_cons, Bool.and_eq_true] at hp
    rw [fitsGo, Bool.and_eq_true] at hf
    have hpl : ¬ plainB i.op i.a i.b i.c i.imm = false := by have := hp.1; unfold Ins.plain at this; simp [this]
    rw [targGo, if_neg hpl]
    have hj := hf.1
    unfold jumpOk at hj
    cases hg : goesP i.op
    · rw [if_pos rfl]
      obtain ⟨c, h1, h2⟩ := targ_some n r (k + 1) c0 hp.2 hf.2
      refine ⟨c, h1, fun x => ?_⟩
      rw [h2 x]
      simp [hg]
    · rw [hg] at hj
      simp only [Bool.not_true, Bool.false_or, Bool.and_eq_true, decide_eq_true_eq] at hj
      rw [if_neg (by simp), if_neg (by rw [hj.2]; simp; omega)]
      obtain ⟨c, h1, h2⟩ := targ_some n r (k + 1) (bump c0 i.imm) hp.2 hf.2
      refine ⟨c, h1, fun x => ?_⟩
      rw [h2 x]
      unfold bump
      simp only [List.mem_cons, exists_eq_or_imp, hg, true_and]
      by_cases hx : x = i.imm
      · subst hx; simp
      · rw [if_neg hx]
        have : i.imm ≠ x := fun e => hx e.symm
        simp [this]
theorem targ_none (n : Nat) : ∀ (l : List Ins) (k : Nat) (c0 : Int → Nat), (l.all Ins.plain && fitsGo n l k) = false → targGo n l k c0 = none
  | [], k, c0, h => by simp [fitsGo] at h
  | i :: r, k, c0, h => by
    rw [targGo]
    split
    · rfl
    · rename_i hp
      have hp' : Ins.plain i = true := by unfold Ins.plain; simpa using hp
      rw [List.all_cons, hp', Bool.true_and, fitsGo] at h
      split
      · rename_i hg
        refine targ_none n r (k + 1) c0 ?_
        unfold jumpOk at h
        rw [hg] at h
        simpa using h
      · rename_i hg
        have hg' : goesP i.op = true := by simpa using hg
        split
        · rfl
        · rename_i hb
          refine targ_none n r (k + 1) _ ?_
          unfold jumpOk at h
          have h1 : i.imm ≤ (n : Int) := by omega
          have h2 : forthP i.op k i.imm = true := by
            cases hf : forthP i.op k i.imm
            · exact absurd (.inr hf) hb
            · rfl
          rw [hg', h2] at h
          simpa [h1] using h
theorem fits_none {code : List Ins} (h : fitsP code = false) : textP code = ⟨#[]⟩ := by
  unfold textP
  by_cases hl : code.length ≤ 256
  · unfold fitsP at h
    rw [decide_eq_true hl, Bool.true_and] at h
    rw [show targP code = none from targ_none _ _ _ _ h]
  · cases targP code with
    | none => rfl
    | some c => simp only; rw [if_pos (by omega)]
theorem fits_some {code : List Ins} (h : fitsP code = true) : code.length ≤ 256 ∧ (∀ i ∈ code, plainB i.op i.a i.b i.c i.imm = true) ∧
    ∃ cnt, targP code = some cnt ∧ textP code = ⟨(textGo cnt code 0).toArray⟩ ∧ ∀ x, 0 < cnt x ↔ ∃ i ∈ code, goesP i.op = true ∧ i.imm = x := by
  unfold fitsP at h
  simp only [Bool.and_eq_true, decide_eq_true_eq] at h
  obtain ⟨⟨h1, h2⟩, h3⟩ := h
  obtain ⟨c, hc, hx⟩ := targ_some code.length code 0 (fun _ => 0) h2 h3
  refine ⟨h1, fun i hi => List.all_eq_true.1 h2 i hi, c, hc, ?_, fun x => by rw [hx x]; simp⟩
  unfold textP
  rw [show targP code = some c from hc]
  simp only
  rw [if_neg (by omega)]
set_option maxRecDepth 100000 in
set_option maxHeartbeats 4000000 in
theorem rfits_any (code : List Ins) (A : Option Addr) (n c : Nat) (w : World) (hr : RdI w w.heap.size A n code) (hn : n ≤ 100000) (hok : ∀ i ∈ code, i.Ok) :
    Calls Tryd.prog 13 #[.slice A n c] w fun e w' => e = .returned (.bool (fitsP code)) ∧ Below w.heap.size w w' := by
  have hlen := hr.insLen
  have HR := Lib.hid hr
  have hall := all_any code A n c w hr
  by_cases hbig : 256 < n
  · have HF : Hid (fitsP code = false) := by show _ = _; unfold fitsP; rw [decide_eq_false (by omega)]; rfl
    have hb : decide ((n : Int) > 256) = true := decide_eq_true (by omega)
    have hb2 : (256 : Int) < (n : Int) := by omega
    clear hbig hr
    go_enter Tryd.func13, Tryd.ntmps13
    go_wp2
    go_ret
    exact ⟨ret_bool HF.out.symm, Below.refl _ _⟩
  · have hb : decide ((n : Int) > 256) = false := decide_eq_false (by omega)
    have hb2 : ¬ (256 : Int) < (n : Int) := by omega
    obtain ⟨al, hal⟩ : ∃ al, code.all Ins.plain = al := ⟨_, rfl⟩
    rw [hal] at hall
    cases al
    · have HF : Hid (fitsP code = false) := by show _ = _; unfold fitsP; rw [hal]; simp
      clear hbig hr hal
      go_enter Tryd.func13, Tryd.ntmps13
      go_wp2_with (go_at_call 18; refine hall.mono ?_; rintro e w1 ⟨rfl, hb1⟩; have HB1 := Lib.hid hb1; clear hb1)
      go_ret
      exact ⟨ret_bool HF.out.symm, HB1.out⟩
    · have HF : Hid (fitsP code = fitsGo n code 0) := by show _ = _; unfold fitsP; rw [hal, hlen, decide_eq_true (by omega)]; rfl
      have hn256 : n ≤ 256 := by omega
      have HOk := Lib.hid hok
      clear hbig hr hal hok
      go_enter Tryd.func13, Tryd.ntmps13
      go_wp2_with (go_at_call 18; refine hall.mono ?_; rintro e w1 ⟨rfl, hb1⟩; have HB1 := Lib.hid hb1; clear hb1)
      go_loopw [3] (fun i wr => ∃ k : Nat, (k ≤ n ∧ i = .int .i64 k) ∧ Hid (fitsGo n (code.drop k) k = fitsGo n code 0) ∧ Hid (Below w.heap.size w wr)) (fun i _ => n - (intOf i).toNat)
      case atStart => exact ⟨0, ⟨by omega, rfl⟩, rfl, HB1.out⟩
      case round =>
        obtain ⟨k, ⟨hk, rfl⟩, HG, HB⟩ := hrel
        by_cases hlt : k < n
        · have hlti : (k : Int) < (n : Int) := by omega
          obtain ⟨b, o, ⟨oo, oa, ob, oc, om⟩, rfl, hbB, hik, c0, c1, c2, c3, c4⟩ := (HR.out.below HB.out).insAt hlt
          have hi := HOk.out _ (List.mem_of_getElem? hik)
          have hdr : code.drop k = ⟨oo, oa, ob, oc, om⟩ :: code.drop (k + 1) := by
            have hkl : k < code.length := by omega
            rw [List.drop_eq_getElem_cons hkl]; rw [List.getElem?_eq_getElem hkl] at hik; injection hik with hik; rw [hik]
          have hg := HG.out
          rw [hdr, fitsGo, jumpOk] at hg
          simp only at hg
          have hom := hi.imm
          simp only at hom
          obtain ⟨gs, hgs⟩ : ∃ gs, goesP oo = gs := ⟨_, rfl⟩
          rw [hgs] at hg
          have HGs := Lib.hid hgs
          clear hgs hdr hik hi
          cases gs
          · have HE : Hid (fitsGo n (code.drop (k + 1)) (k + 1) = fitsGo n code 0) := by show _ = _; rw [← hg]; simp
            clear hg
            go_upto_region 6 with fail
            go_quiet ((go_at_call 19; exact Calls.quiet_of_same (rgoes_is _ _ HGs.out)))
            go_wp2
            go_roundw
            case rel => exact ⟨k + 1, ⟨by omega, by go_num⟩, HE, below_drewN HB.out nq⟩
            case measure => simp [intOf]; omega
          · by_cases hbo : (n : Int) < om
            · have hd : decide (om > (n : Int)) = true := decide_eq_true hbo
              have HE : Hid (fitsP code = false) := by
                show _ = _
                rw [HF.out, ← hg, decide_eq_false (by omega)]; rfl
              clear hg
              go_upto_region 6 with fail
              go_quiet ((go_at_call 19; exact Calls.quiet_of_same (rgoes_is _ _ HGs.out)))
              go_wp2
              go_ret
              exact ⟨ret_bool HE.out.symm, below_drewN HB.out nq⟩
            · have hd : decide (om > (n : Int)) = false := decide_eq_false hbo
              obtain ⟨x, rfl⟩ : ∃ x : Nat, om = (x : Int) := ⟨om.toNat, by omega⟩
              have hxn : x ≤ n := by omega
              have hxi : (x : Int) ≤ 256 := by omega
              have hxi2 : (x : Int) ≤ (n : Int) := by omega
              have hw1 : IntKind.i64.wrap (x : Int) = (x : Int) := by simp [IntKind.wrap, IntKind.signed, IntKind.bits]; omega
              have hw2 : IntKind.u64.wrap (n : Int) = (n : Int) := by simp [IntKind.wrap, IntKind.signed, IntKind.bits]; omega
              obtain ⟨fb, hfb⟩ : ∃ fb, forthP oo k x = fb := ⟨_, rfl⟩
              rw [hfb, decide_eq_true (by omega)] at hg
              have HFb := Lib.hid hfb
              clear hfb hbo
              cases fb
              · have HE : Hid (fitsP code = false) := by
                  show _ = _
                  rw [HF.out, ← hg]; rfl
                clear hg
                go_upto_region 6 with fail
                go_quiet (first
                  | (go_at_call 19; exact Calls.quiet_of_same (rgoes_is _ _ HGs.out))
                  | (go_at_call 30; exact Calls.quiet_of_same (rforth_is _ _ _ _ HFb.out)))
                go_wp2
                go_ret
                exact ⟨ret_bool HE.out.symm, below_drewN HB.out nq⟩
              · have HE : Hid (fitsGo n (code.drop (k + 1)) (k + 1) = fitsGo n code 0) := by show _ = _; rw [← hg]; simp
                clear hg
                go_upto_region 6 with fail
                go_quiet (first
                  | (go_at_call 19; exact Calls.quiet_of_same (rgoes_is _ _ HGs.out))
                  | (go_at_call 30; exact Calls.quiet_of_same (rforth_is _ _ _ _ HFb.out)))
                go_wp2
                go_roundw
                case rel => exact ⟨k + 1, ⟨by omega, by go_num⟩, HE, below_drewN HB.out nq⟩
                case measure => simp [intOf]; omega
        · obtain rfl : k = n := by omega
          have hg := HG.out
          rw [List.drop_of_length_le (by omega), fitsGo] at hg
          have HE : Hid (fitsP code = true) := by show _ = _; rw [HF.out, ← hg]
          clear hg
          go_wp2
          go_ret
          exact ⟨ret_bool HE.out.symm, HB.out⟩
end Go.Proofs.YthdlihiehfkceaaDoor

namespace Go.Proofs.YthdlihiehfkceaaDoor
open Go.RowKit
set_option linter.unusedVariables false

/-- An instruction's text, from its registers' and its number's texts. -/
def showB (op : Nat) (RA RB RC RN : ByteArray) : ByteArray := match op with
  | 0 => RA ++ (⟨#[32, 226, 134, 144, 32]⟩ : ByteArray) ++ RN
  | 1 => RA ++ (⟨#[32, 226, 134, 144, 32]⟩ : ByteArray) ++ RB
  | 2 => RA ++ (⟨#[32, 226, 134, 144, 32]⟩ : ByteArray) ++ RB ++ (⟨#[32]⟩ : ByteArray) ++ (⟨#[43]⟩ : ByteArray) ++ (⟨#[32]⟩ : ByteArray) ++ RC
  | 3 => RA ++ (⟨#[32, 226, 134, 144, 32]⟩ : ByteArray) ++ RB ++ (⟨#[32]⟩ : ByteArray) ++ (⟨#[45]⟩ : ByteArray) ++ (⟨#[32]⟩ : ByteArray) ++ RC
  | 4 => RA ++ (⟨#[32, 226, 134, 144, 32]⟩ : ByteArray) ++ RB ++ (⟨#[32]⟩ : ByteArray) ++ (⟨#[195, 151]⟩ : ByteArray) ++ (⟨#[32]⟩ : ByteArray) ++ RC
  | 5 => RA ++ (⟨#[32, 226, 134, 144, 32]⟩ : ByteArray) ++ RB ++ (⟨#[32]⟩ : ByteArray) ++ (⟨#[37]⟩ : ByteArray) ++ (⟨#[32]⟩ : ByteArray) ++ RC
  | 6 => RA ++ (⟨#[32, 226, 134, 144, 32]⟩ : ByteArray) ++ RB ++ (⟨#[32]⟩ : ByteArray) ++ (⟨#[61]⟩ : ByteArray) ++ (⟨#[32]⟩ : ByteArray) ++ RC
  | 7 => RA ++ (⟨#[32, 226, 134, 144, 32]⟩ : ByteArray) ++ RB ++ (⟨#[32]⟩ : ByteArray) ++ (⟨#[60]⟩ : ByteArray) ++ (⟨#[32]⟩ : ByteArray) ++ RC
  | 8 => RA ++ (⟨#[32, 226, 134, 144, 32, 97, 114, 103, 32]⟩ : ByteArray) ++ RN
  | 9 => RA ++ (⟨#[32, 226, 134, 144, 32, 114, 111, 111, 116, 32]⟩ : ByteArray) ++ RB
  | 10 => (⟨#[114, 111, 111, 116, 32]⟩ : ByteArray) ++ RB ++ (⟨#[32, 226, 134, 144, 32]⟩ : ByteArray) ++ RA
  | 11 => RA ++ (⟨#[32, 226, 134, 144, 32, 91, 32]⟩ : ByteArray) ++ RB ++ (⟨#[32, 43, 32]⟩ : ByteArray) ++ RN ++ (⟨#[32, 93]⟩ : ByteArray)
  | 12 => RA ++ (⟨#[32, 226, 134, 144, 32, 91, 32]⟩ : ByteArray) ++ RB ++ (⟨#[32, 43, 32]⟩ : ByteArray) ++ RC ++ (⟨#[32, 93]⟩ : ByteArray)
  | 13 => (⟨#[91, 32]⟩ : ByteArray) ++ RB ++ (⟨#[32, 43, 32]⟩ : ByteArray) ++ RN ++ (⟨#[32, 93, 32, 226, 134, 144, 32]⟩ : ByteArray) ++ RA
  | 14 => (⟨#[91, 32]⟩ : ByteArray) ++ RB ++ (⟨#[32, 43, 32]⟩ : ByteArray) ++ RC ++ (⟨#[32, 93, 32, 226, 134, 144, 32]⟩ : ByteArray) ++ RA
  | 15 => RA ++ (⟨#[32, 226, 134, 144, 32, 110, 101, 119]⟩ : ByteArray)
  | 16 => (⟨#[102, 114, 101, 101, 32]⟩ : ByteArray) ++ RA
  | 17 => (⟨#[103, 111, 32, 76]⟩ : ByteArray) ++ RN
  | 18 => (⟨#[122, 101, 114, 111, 32]⟩ : ByteArray) ++ RA ++ (⟨#[32, 76]⟩ : ByteArray) ++ RN
  | 19 => (⟨#[98, 97, 99, 107, 32]⟩ : ByteArray) ++ RA ++ (⟨#[32, 76]⟩ : ByteArray) ++ RN
  | 20 => (⟨#[114, 101, 116, 32]⟩ : ByteArray) ++ RA
  | 21 => (⟨#[97, 98, 111, 114, 116, 32]⟩ : ByteArray) ++ RN
  | _ => ⟨#[]⟩
def decB (x : Int) : ByteArray := ⟨(Lib.decDigits x.toNat).toArray⟩
theorem show_print (op : Nat) (hop : op < 22) (a b c m : Int) (hl : goesP (op : Int) = true → 0 ≤ m) :
    (⟨(printP (lineToks ⟨op, a, b, c, m⟩)).toArray⟩ : ByteArray) = showB op (regName a.toNat) (regName b.toNat) (regName c.toNat) (decB m) := by
  have hl2 : labelP m.toNat = (⟨#[76]⟩ : ByteArray) ++ decB m := rfl
  obtain ⟨A, hA⟩ : ∃ A, regName a.toNat = A := ⟨_, rfl⟩
  obtain ⟨B, hB⟩ : ∃ B, regName b.toNat = B := ⟨_, rfl⟩
  obtain ⟨C, hC⟩ : ∃ C, regName c.toNat = C := ⟨_, rfl⟩
  obtain ⟨N, hN⟩ : ∃ N, Lib.decDigits m.toNat = N := ⟨_, rfl⟩
  have hd : decB m = ⟨N.toArray⟩ := by unfold decB; rw [hN]
  rw [hA, hB, hC, hd]
  rw [hd] at hl2
  obtain ⟨L, hL⟩ : ∃ L, labelP m.toNat = L := ⟨_, rfl⟩
  rw [hL] at hl2
  have e1 : Utf8.encode (8592 : Int) = ⟨#[226, 134, 144]⟩ := by decide +kernel
  have e2 : Utf8.encode (215 : Int) = ⟨#[195, 151]⟩ := by decide +kernel
  have e3 : Utf8.encode (43 : Int) = ⟨#[43]⟩ := by decide +kernel
  have e4 : Utf8.encode (45 : Int) = ⟨#[45]⟩ := by decide +kernel
  have e5 : Utf8.encode (37 : Int) = ⟨#[37]⟩ := by decide +kernel
  have e6 : Utf8.encode (61 : Int) = ⟨#[61]⟩ := by decide +kernel
  have e7 : Utf8.encode (60 : Int) = ⟨#[60]⟩ := by decide +kernel
  have e8 : Utf8.encode (91 : Int) = ⟨#[91]⟩ := by decide +kernel
  have e9 : Utf8.encode (93 : Int) = ⟨#[93]⟩ := by decide +kernel
  have hext : ∀ X Y : ByteArray, X.data.toList = Y.data.toList → X = Y := fun X Y h => ByteArray.ext (Array.toList_inj.1 h)
  obtain rfl | rfl | rfl | rfl | rfl | rfl | rfl | rfl | rfl | rfl | rfl | rfl | rfl | rfl | rfl | rfl | rfl | rfl | rfl | rfl | rfl | rfl : op = 0 ∨ op = 1 ∨ op = 2 ∨ op = 3 ∨ op = 4 ∨ op = 5 ∨ op = 6 ∨ op = 7 ∨ op = 8 ∨ op = 9 ∨ op = 10 ∨ op = 11 ∨ op = 12 ∨ op = 13 ∨ op = 14 ∨ op = 15 ∨ op = 16 ∨ op = 17 ∨ op = 18 ∨ op = 19 ∨ op = 20 ∨ op = 21 := by omega
  all_goals
    refine hext _ _ ?_
    simp [printP, lineToks, formP, tokP, wordP, printGo, tokText, showB, hA, hB, hC, hN, hL, hl2, e1, e2, e3, e4, e5, e6, e7, e8, e9, ByteArray.data_append]
theorem add_str (X Y : ByteArray) (h : X.size ≤ 100) (h2 : Y.size ≤ 100) (w : World) : (Op.stringOp .add X Y).run Tryd.prog w = .ok (.string (X ++ Y)) w := run_string_add_sum w X Y (by omega)
set_option maxRecDepth 100000 in
set_option maxHeartbeats 8000000 in
theorem rshow_any (op : Nat) (hop : op < 22) (a b c : Nat) (m : Int) (ha : a < 16) (hb : b < 16) (hc : c < 16) (hm : 0 ≤ m ∧ m ≤ 18446744073709551615) (w : World) :
    Calls Tryd.prog 29 #[.agg #[.int .i64 op, .int .i64 a, .int .i64 b, .int .i64 c, .int .u64 m]] w fun e w' => e = .returned (.string (showB op (regName a) (regName b) (regName c) (decB m))) ∧ Below w.heap.size w w' := by
  obtain ⟨u, rfl⟩ : ∃ u : Nat, m = (u : Int) := ⟨m.toNat, by omega⟩
  have hu : u < 18446744073709551616 := by omega
  have HDu : Hid ((⟨(Lib.decDigits u).toArray⟩ : ByteArray) = decB (u : Int)) := by show _ = _; unfold decB; rw [Int.toNat_natCast]
  have hds : (decB (u : Int)).size ≤ 20 := by rw [← HDu.out]; show (Lib.decDigits u).toArray.size ≤ 20; simp; rw [Lib.decDigits_length]; exact Lib.nDigits_le20 u hu
  have hra := rreg_any a ha
  have hrb := rreg_any b hb
  have hrc := rreg_any c hc
  have ha3 := regName_le a
  have hb3 := regName_le b
  have hc3 := regName_le c
  obtain ⟨RA, hA⟩ : ∃ RA, regName a = RA := ⟨_, rfl⟩
  obtain ⟨RB, hB⟩ : ∃ RB, regName b = RB := ⟨_, rfl⟩
  obtain ⟨RC, hC⟩ : ∃ RC, regName c = RC := ⟨_, rfl⟩
  obtain ⟨RN, hN⟩ : ∃ RN, decB (u : Int) = RN := ⟨_, rfl⟩
  rw [hA] at hra ha3
  rw [hB] at hrb hb3
  rw [hC] at hrc hc3
  rw [hN] at HDu hds
  rw [hA, hB, hC, hN]
  clear hA hB hC hN hm ha hb hc
  go_enter Tryd.func29, Tryd.ntmps29
  have HI0 : Hid (Bk (w.alloc (.cells #[.int .i64 (op : Int), .int .i64 (a : Int), .int .i64 (b : Int), .int .i64 (c : Int), .int .u64 (u : Int)] 35)) w.heap.size 35 #[.int .i64 (op : Int), .int .i64 (a : Int), .int .i64 (b : Int), .int .i64 (c : Int), .int .u64 (u : Int)]) := Bk.new w _ _
  have HB0 : Hid (Below w.heap.size w (w.alloc (.cells #[.int .i64 (op : Int), .int .i64 (a : Int), .int .i64 (b : Int), .int .i64 (c : Int), .int .u64 (u : Int)] 35))) := (Below.refl _ _).alloc (Nat.le_refl _) _
  go_upto_region 2 with (
    go_at_call 52
    refine (hra _).mono ?_
    rintro e w1 ⟨rfl, hb1⟩
    have HI1 := Lib.hid (HI0.out.below hb1 HI0.out.lt)
    have HB1 := Lib.hid (HB0.out.trans (hb1.mono HB0.out.size))
    have q10 : w1.cell? ⟨w.heap.size, 0, none⟩ = some (.int .i64 (op : Nat)) := HI1.out.cell 0
    have q11 : w1.cell? ⟨w.heap.size, 1, none⟩ = some (.int .i64 (a : Nat)) := HI1.out.cell 1
    have q12 : w1.cell? ⟨w.heap.size, 2, none⟩ = some (.int .i64 (b : Nat)) := HI1.out.cell 2
    have q13 : w1.cell? ⟨w.heap.size, 3, none⟩ = some (.int .i64 (c : Nat)) := HI1.out.cell 3
    have q14 : w1.cell? ⟨w.heap.size, 4, none⟩ = some (.int .u64 (u : Nat)) := HI1.out.cell 4
    clear hb1)
  go_upto_region 3 with (
    go_at_call 52
    refine (hrb _).mono ?_
    rintro e w2 ⟨rfl, hb2⟩
    have HI2 := Lib.hid (HI1.out.below hb2 HI1.out.lt)
    have HB2 := Lib.hid (HB1.out.trans (hb2.mono HB1.out.size))
    clear q10 q11 q12 q13 q14
    have q20 : w2.cell? ⟨w.heap.size, 0, none⟩ = some (.int .i64 (op : Nat)) := HI2.out.cell 0
    have q21 : w2.cell? ⟨w.heap.size, 1, none⟩ = some (.int .i64 (a : Nat)) := HI2.out.cell 1
    have q22 : w2.cell? ⟨w.heap.size, 2, none⟩ = some (.int .i64 (b : Nat)) := HI2.out.cell 2
    have q23 : w2.cell? ⟨w.heap.size, 3, none⟩ = some (.int .i64 (c : Nat)) := HI2.out.cell 3
    have q24 : w2.cell? ⟨w.heap.size, 4, none⟩ = some (.int .u64 (u : Nat)) := HI2.out.cell 4
    clear hb2)
  go_upto_region 4 with (
    go_at_call 52
    refine (hrc _).mono ?_
    rintro e w3 ⟨rfl, hb3⟩
    have HI3 := Lib.hid (HI2.out.below hb3 HI2.out.lt)
    have HB3 := Lib.hid (HB2.out.trans (hb3.mono HB2.out.size))
    clear q20 q21 q22 q23 q24
    have q30 : w3.cell? ⟨w.heap.size, 0, none⟩ = some (.int .i64 (op : Nat)) := HI3.out.cell 0
    have q31 : w3.cell? ⟨w.heap.size, 1, none⟩ = some (.int .i64 (a : Nat)) := HI3.out.cell 1
    have q32 : w3.cell? ⟨w.heap.size, 2, none⟩ = some (.int .i64 (b : Nat)) := HI3.out.cell 2
    have q33 : w3.cell? ⟨w.heap.size, 3, none⟩ = some (.int .i64 (c : Nat)) := HI3.out.cell 3
    have q34 : w3.cell? ⟨w.heap.size, 4, none⟩ = some (.int .u64 (u : Nat)) := HI3.out.cell 4
    clear hb3)
  go_upto_region 5 with (
    go_at_call 28
    refine (rdigits_any u hu _).mono ?_
    rintro e w4 ⟨rfl, hb4⟩
    rw [HDu.out]
    have HI4 := Lib.hid (HI3.out.below hb4 HI3.out.lt)
    have HB4 := Lib.hid (HB3.out.trans (hb4.mono HB3.out.size))
    clear q30 q31 q32 q33 q34
    have q40 : w4.cell? ⟨w.heap.size, 0, none⟩ = some (.int .i64 (op : Nat)) := HI4.out.cell 0
    have q41 : w4.cell? ⟨w.heap.size, 1, none⟩ = some (.int .i64 (a : Nat)) := HI4.out.cell 1
    have q42 : w4.cell? ⟨w.heap.size, 2, none⟩ = some (.int .i64 (b : Nat)) := HI4.out.cell 2
    have q43 : w4.cell? ⟨w.heap.size, 3, none⟩ = some (.int .i64 (c : Nat)) := HI4.out.cell 3
    have q44 : w4.cell? ⟨w.heap.size, 4, none⟩ = some (.int .u64 (u : Nat)) := HI4.out.cell 4
    clear hb4)
  go_upto_region 6 with fail
  obtain ⟨V, hV⟩ : ∃ V, w4.alloc (.cells #[.string ⟨#[]⟩, .string ⟨#[]⟩, .string ⟨#[43]⟩, .string ⟨#[45]⟩, .string ⟨#[195, 151]⟩, .string ⟨#[37]⟩, .string ⟨#[61]⟩, .string ⟨#[60]⟩] 9) = V := ⟨_, rfl⟩
  have HSg : Hid (Below w.heap.size w V) := by rw [← hV]; exact HB4.out.alloc HB4.out.size _
  have HI5 : Hid (Bk V w.heap.size 35 #[.int .i64 (op : Int), .int .i64 (a : Int), .int .i64 (b : Int), .int .i64 (c : Int), .int .u64 (u : Int)]) := by rw [← hV]; exact HI4.out.alloc _
  have HS5 : Hid (Bk V w4.heap.size 9 #[.string ⟨#[]⟩, .string ⟨#[]⟩, .string ⟨#[43]⟩, .string ⟨#[45]⟩, .string ⟨#[195, 151]⟩, .string ⟨#[37]⟩, .string ⟨#[61]⟩, .string ⟨#[60]⟩]) := by rw [← hV]; exact Bk.new w4 _ _
  rw [hV]
  clear hV q40 q41 q42 q43 q44
  have q50 : V.cell? ⟨w.heap.size, 0, none⟩ = some (.int .i64 (op : Int)) := HI5.out.cell 0
  have s0 : V.cell? ⟨w4.heap.size, 0, none⟩ = some (.string ⟨#[]⟩) := HS5.out.cell 0
  have s1 : V.cell? ⟨w4.heap.size, 1, none⟩ = some (.string ⟨#[]⟩) := HS5.out.cell 1
  have s2 : V.cell? ⟨w4.heap.size, 2, none⟩ = some (.string ⟨#[43]⟩) := HS5.out.cell 2
  have s3 : V.cell? ⟨w4.heap.size, 3, none⟩ = some (.string ⟨#[45]⟩) := HS5.out.cell 3
  have s4 : V.cell? ⟨w4.heap.size, 4, none⟩ = some (.string ⟨#[195, 151]⟩) := HS5.out.cell 4
  have s5 : V.cell? ⟨w4.heap.size, 5, none⟩ = some (.string ⟨#[37]⟩) := HS5.out.cell 5
  have s6 : V.cell? ⟨w4.heap.size, 6, none⟩ = some (.string ⟨#[61]⟩) := HS5.out.cell 6
  have s7 : V.cell? ⟨w4.heap.size, 7, none⟩ = some (.string ⟨#[60]⟩) := HS5.out.cell 7
  by_cases h8 : op < 8
  · obtain rfl | rfl | rfl | rfl | rfl | rfl | rfl | rfl : op = 0 ∨ op = 1 ∨ op = 2 ∨ op = 3 ∨ op = 4 ∨ op = 5 ∨ op = 6 ∨ op = 7 := by omega
    all_goals
      clear h8 hop
      go_wp2
      go_ret
      exact ⟨rfl, HSg.out⟩
  · have e0 : ((op : Int) == 0) = false := beq_eq_false_iff_ne.2 (by omega)
    have e1 : ((op : Int) == 1) = false := beq_eq_false_iff_ne.2 (by omega)
    have e2 : decide ((op : Int) < 8) = false := decide_eq_false (by omega)
    have e3 : ¬ (op : Int) < 8 := by omega
    have hlt5 := HI5.out.lt
    have hsz5 := HSg.out.size
    go_upto_region 13 with fail
    obtain rfl | rfl | rfl | rfl | rfl | rfl | rfl | rfl | rfl | rfl | rfl | rfl | rfl | rfl : op = 8 ∨ op = 9 ∨ op = 10 ∨ op = 11 ∨ op = 12 ∨ op = 13 ∨ op = 14 ∨ op = 15 ∨ op = 16 ∨ op = 17 ∨ op = 18 ∨ op = 19 ∨ op = 20 ∨ op = 21 := by omega
    all_goals
      clear h8 hop e0 e1 e2 e3
      go_wp2
      go_ret
      exact ⟨rfl, HSg.out.alloc hsz5 _⟩
end Go.Proofs.YthdlihiehfkceaaDoor

namespace Go.Proofs.YthdlihiehfkceaaDoor
open Go.RowKit
set_option linter.unusedVariables false

def toK (k : Nat) (i : Ins) : Bool := goesP i.op && decide (i.imm = (k : Int))
theorem any_snoc {l : List Ins} {j : Nat} {i : Ins} (h : l[j]? = some i) (p : Ins → Bool) : (l.take (j + 1)).any p = ((l.take j).any p || p i) := by
  rw [List.take_add_one, h]; simp
def accOk (cnt : Int → Nat) (code : List Ins) (T acc : List UInt8) (k : Nat) : Prop := if k ≤ code.length then acc ++ textGo cnt (code.drop k) k = T else acc = T

set_option maxRecDepth 100000 in
set_option maxHeartbeats 8000000 in
theorem rtext_any (code : List Ins) (A : Option Addr) (n c : Nat) (w : World) (hr : RdI w w.heap.size A n code) (hn : n ≤ 100000) (hok : ∀ i ∈ code, i.Ok) :
    Calls Tryd.prog 12 #[.slice A n c] w fun e w' => e = .returned (.string (textP code)) ∧ Below w.heap.size w w' := by
  have hlen := hr.insLen
  have hfi := rfits_any code A n c w hr hn hok
  have HR := Lib.hid hr
  clear hr
  cases hfp : fitsP code
  · rw [hfp] at hfi
    have HE := Lib.hid (fits_none hfp)
    clear hfp
    go_enter Tryd.func12, Tryd.ntmps12
    go_wp2_with (go_at_call 13; refine hfi.mono ?_; rintro e w1 ⟨rfl, hb1⟩; have HB1 := Lib.hid hb1; clear hb1)
    go_ret
    exact ⟨by rw [HE.out]; rfl, HB1.out⟩
  · rw [hfp] at hfi
    obtain ⟨hl256, hpl, cnt, htp, hte, hcn⟩ := fits_some hfp
    obtain ⟨T, hT⟩ : ∃ T, textGo cnt code 0 = T := ⟨_, rfl⟩
    have hTl := textGo_le cnt code 0 (by omega) (fun i hi => (hok i hi).imm)
    rw [hT] at hTl hte
    have HE := Lib.hid hte
    have HTl : Hid (T.length ≤ 60000) := by show _ ≤ _; omega
    have HPl := Lib.hid hpl
    have HCn : Hid (∀ k : Nat, code.any (toK k) = decide (0 < cnt k)) := by
      intro k
      rw [Bool.eq_iff_iff, decide_eq_true_eq, hcn k, List.any_eq_true]
      constructor
      · rintro ⟨i, hi, h⟩
        unfold toK at h
        rw [Bool.and_eq_true, decide_eq_true_eq] at h
        exact ⟨i, hi, h⟩
      · rintro ⟨i, hi, h1, h2⟩
        exact ⟨i, hi, by unfold toK; rw [h1, decide_eq_true h2]; rfl⟩
    have HAc : Hid (accOk cnt code T [] 0) := by show accOk _ _ _ _ _; unfold accOk; rw [if_pos (Nat.zero_le _)]; exact hT
    have HOk := Lib.hid hok
    have HLen := Lib.hid hlen
    have hn256 : n ≤ 256 := by omega
    clear hfp htp hte hT hTl hpl hcn hok hlen hl256
    go_enter Tryd.func12, Tryd.ntmps12
    go_wp2_with (go_at_call 13; refine hfi.mono ?_; rintro e w1 ⟨rfl, hb1⟩; have HB1 := Lib.hid hb1; clear hb1)
    go_loopw [3, 4] (fun sv i wr => ∃ (k : Nat) (acc : List UInt8), (k ≤ n + 1 ∧ i = .int .i64 k ∧ sv = .string ⟨acc.toArray⟩) ∧ Hid (accOk cnt code T acc k) ∧ Hid (Below w.heap.size w wr)) (fun _ i _ => n + 1 - (intOf i).toNat)
    case atStart => exact ⟨0, [], ⟨by omega, rfl, rfl⟩, HAc, HB1.out⟩
    case round =>
      obtain ⟨k, acc, ⟨hk, rfl, rfl⟩, HA, HB⟩ := hrel
      by_cases hkn : k ≤ n
      · have hkni : (k : Int) ≤ (n : Int) := by omega
        have HA1 : Hid (acc ++ textGo cnt (code.drop k) k = T) := by
          have h := HA.out
          unfold accOk at h
          rw [if_pos (by rw [HLen.out]; exact hkn)] at h
          exact h
        have hal : acc.length + (headP cnt k).length ≤ 60000 := by
          have e := congrArg List.length HA1.out
          have h1 := textGo_head cnt (code.drop k) k
          have h2 := HTl.out
          rw [List.length_append] at e
          omega
        go_upto_region 9 with fail
        go_loopw [5, 6] (fun b i wq => ∃ j : Nat, (j ≤ n ∧ i = .int .i64 j ∧ b = .bool ((code.take j).any (toK k))) ∧ Hid (Below w.heap.size w wq)) (fun _ i _ => n - (intOf i).toNat)
        case atStart => exact ⟨0, ⟨by omega, rfl, rfl⟩, HB.out⟩
        case round =>
          obtain ⟨j, ⟨hj, rfl, rfl⟩, HBq⟩ := hrel
          by_cases hlt : j < n
          · have hlti : (j : Int) < (n : Int) := by omega
            obtain ⟨b, o, ⟨oo, oa, ob, oc, om⟩, rfl, hbB, hik, c0, c1, c2, c3, c4⟩ := (HR.out.below HBq.out).insAt hlt
            have HSn := Lib.hid (any_snoc hik (toK k))
            have hom := (HOk.out _ (List.mem_of_getElem? hik)).imm
            simp only at hom
            obtain ⟨ib, hib⟩ : ∃ ib, (code.take j).any (toK k) = ib := ⟨_, rfl⟩
            rw [hib] at HSn
            rw [hib]
            clear hib hik
            obtain ⟨gs, hgs⟩ : ∃ gs, goesP oo = gs := ⟨_, rfl⟩
            have HTk : Hid (toK k ⟨oo, oa, ob, oc, om⟩ = (gs && decide (om = (k : Int)))) := by show _ = _; unfold toK; simp only; rw [hgs]
            have hgo := fun W => rgoes_is oo W hgs
            clear hgs
            cases ib
            · cases gs
              · go_wp2_with (go_at_call 19; refine (hgo _).mono ?_; rintro e w9 ⟨rfl, he9⟩; obtain rfl : wr = w9 := he9.symm)
                go_roundw
                case rel => exact ⟨j + 1, ⟨by omega, by go_num, by rw [HSn.out, HTk.out]; rfl⟩, HBq.out⟩
                case measure => simp [intOf]; omega
              · by_cases hmk : om = (k : Int)
                · subst hmk
                  go_wp2_with (go_at_call 19; refine (hgo _).mono ?_; rintro e w9 ⟨rfl, he9⟩; obtain rfl : wr = w9 := he9.symm)
                  go_roundw
                  case rel => exact ⟨j + 1, ⟨by omega, by go_num, by rw [HSn.out, HTk.out]; simp⟩, HBq.out⟩
                  case measure => simp [intOf]; omega
                · have hbe : (om == (k : Int)) = false := beq_eq_false_iff_ne.2 hmk
                  have HNe : Hid (decide (om = (k : Int)) = false) := decide_eq_false hmk
                  clear hmk
                  go_wp2_with (go_at_call 19; refine (hgo _).mono ?_; rintro e w9 ⟨rfl, he9⟩; obtain rfl : wr = w9 := he9.symm)
                  go_roundw
                  case rel => exact ⟨j + 1, ⟨by omega, by go_num, by rw [HSn.out, HTk.out, HNe.out]; rfl⟩, HBq.out⟩
                  case measure => simp [intOf]; omega
            · go_wp2_with (go_at_call 19; refine (hgo _).mono ?_; rintro e w9 ⟨rfl, he9⟩; obtain rfl : wr = w9 := he9.symm)
              go_roundw
              case rel => exact ⟨j + 1, ⟨by omega, by go_num, by rw [HSn.out]; rfl⟩, HBq.out⟩
              case measure => simp [intOf]; omega
          · obtain rfl : n = j := by omega
            have hfl : (code.take n).any (toK k) = decide (0 < cnt k) := by rw [List.take_of_length_le (by rw [HLen.out]; exact Nat.le_refl _)]; exact HCn.out k
            rw [hfl]
            clear hfl
            have hdl : (Lib.decDigits k).length ≤ 20 := by rw [Lib.decDigits_length]; exact Lib.nDigits_le20 k (by omega)
            obtain ⟨DD, hDD⟩ : ∃ DD, Lib.decDigits k = DD := ⟨_, rfl⟩
            rw [hDD] at hdl
            by_cases hpos : 0 < cnt k
            · rw [decide_eq_true hpos]
              have HHd : Hid (headP cnt k = 76 :: (DD ++ [32, 58, 10])) := by
                show _ = _
                unfold headP labelP
                rw [if_pos hpos, hDD]; simp [ByteArray.data_append]
              have hal2 : acc.length + DD.length ≤ 60000 := by rw [HHd.out] at hal; simp at hal; omega
              have HDD := Lib.hid hDD
              clear hpos hDD
              by_cases hkl : k < n
              · have hkli : (k : Int) < (n : Int) := by omega
                obtain ⟨b, o, ⟨oo, oa, ob, oc, om⟩, rfl, hbB, hik, c0, c1, c2, c3, c4⟩ := (HR.out.below HBq.out).insAt hkl
                have hpl := HPl.out _ (List.mem_of_getElem? hik)
                have hom := (HOk.out _ (List.mem_of_getElem? hik)).imm
                simp only at hpl hom
                obtain ⟨h0, h1, h2, h3⟩ := plain_facts hpl
                obtain ⟨op, rfl⟩ : ∃ op : Nat, oo = (op : Int) := ⟨oo.toNat, by omega⟩
                obtain ⟨ra, rfl⟩ : ∃ ra : Nat, oa = (ra : Int) := ⟨oa.toNat, by omega⟩
                obtain ⟨rb, rfl⟩ : ∃ rb : Nat, ob = (rb : Int) := ⟨ob.toNat, by omega⟩
                obtain ⟨rc, rfl⟩ : ∃ rc : Nat, oc = (rc : Int) := ⟨oc.toNat, by omega⟩
                have hdr : code.drop k = ⟨op, ra, rb, rc, om⟩ :: code.drop (k + 1) := by
                  have hkl2 : k < code.length := by rw [HLen.out]; exact hkl
                  rw [List.drop_eq_getElem_cons hkl2]; rw [List.getElem?_eq_getElem hkl2] at hik; injection hik with hik; rw [hik]
                have hsp := show_print op (by omega) ra rb rc om (fun _ => hom.1)
                simp only [Int.toNat_natCast] at hsp
                have hsh := fun W => rshow_any op (by omega) ra rb rc om (by omega) (by omega) (by omega) hom W
                rw [← hsp] at hsh
                obtain ⟨PL, hPL⟩ : ∃ PL, printP (lineToks ⟨op, ra, rb, rc, om⟩) = PL := ⟨_, rfl⟩
                have hPl : PL.length ≤ 175 := by rw [← hPL]; exact print_line_le _ hom
                have hA2 := HA1.out
                rw [hdr, textGo, hPL] at hA2
                rw [hPL] at hsh
                have HA2 : Hid (accOk cnt code T ((acc ++ headP cnt k) ++ (PL ++ [10])) (k + 1)) := by
                  show accOk _ _ _ _ _
                  unfold accOk
                  rw [if_pos (by rw [HLen.out]; omega), ← hA2]
                  simp only [List.append_assoc]
                have HSh := Lib.hid hsh
                clear hsh hA2 hPL hsp hdr hik hpl h0 h1 h2 h3
                go_wp2_with (first
                  | (go_at_call 29
                     refine (HSh.out _).mono ?_
                     rintro e w4 ⟨rfl, hb4⟩
                     have HB4 := Lib.hid (HB3.out.trans (hb4.mono HB3.out.size))
                     clear hb4)
                  | (go_at_call 28
                     refine (rdigits_any k (by omega) _).mono ?_
                     rintro e w3 ⟨rfl, hb3⟩
                     rw [HDD.out]
                     have HB3 := Lib.hid (HBq.out.trans (hb3.mono HBq.out.size))
                     have d0 : w3.cell? ⟨b, o + k * 5, none⟩ = _ := (hb3.cell (p := ⟨b, o + k * 5, none⟩) (by have := HBq.out.size; show b < _; omega)).trans c0
                     have d1 : w3.cell? ⟨b, o + k * 5 + 1, none⟩ = _ := (hb3.cell (p := ⟨b, o + k * 5 + 1, none⟩) (by have := HBq.out.size; show b < _; omega)).trans c1
                     have d2 : w3.cell? ⟨b, o + k * 5 + 2, none⟩ = _ := (hb3.cell (p := ⟨b, o + k * 5 + 2, none⟩) (by have := HBq.out.size; show b < _; omega)).trans c2
                     have d3 : w3.cell? ⟨b, o + k * 5 + 3, none⟩ = _ := (hb3.cell (p := ⟨b, o + k * 5 + 3, none⟩) (by have := HBq.out.size; show b < _; omega)).trans c3
                     have d4 : w3.cell? ⟨b, o + k * 5 + 4, none⟩ = _ := (hb3.cell (p := ⟨b, o + k * 5 + 4, none⟩) (by have := HBq.out.size; show b < _; omega)).trans c4
                     clear hb3 c0 c1 c2 c3 c4))
                go_roundw
                case rel =>
                  refine ⟨k + 1, (acc ++ headP cnt k) ++ (PL ++ [10]), ⟨by omega, by go_num, ?_⟩, HA2, HB4.out⟩
                  rw [HHd.out]
                  refine congrArg Value.string (ByteArray.ext (Array.toList_inj.1 ?_))
                  simp [ByteArray.data_append]
                case measure => simp [intOf]; omega
              · obtain rfl : k = n := by omega
                have HA2 : Hid (accOk cnt code T (acc ++ headP cnt k) (k + 1)) := by
                  show accOk _ _ _ _ _
                  have h := HA1.out
                  rw [List.drop_of_length_le (by rw [HLen.out]; exact Nat.le_refl _), textGo] at h
                  unfold accOk
                  rw [if_neg (by rw [HLen.out]; omega), h]
                go_wp2_with (
                  go_at_call 28
                  refine (rdigits_any k (by omega) _).mono ?_
                  rintro e w3 ⟨rfl, hb3⟩
                  rw [HDD.out]
                  have HB3 := Lib.hid (HBq.out.trans (hb3.mono HBq.out.size))
                  clear hb3)
                go_roundw
                case rel =>
                  refine ⟨k + 1, acc ++ headP cnt k, ⟨by omega, by go_num, ?_⟩, HA2, HB3.out⟩
                  rw [HHd.out]
                  first
                    | (rw [List.append_nil])
                    | (refine congrArg Value.string (ByteArray.ext (Array.toList_inj.1 ?_)); simp [ByteArray.data_append])
                case measure => simp [intOf]
            · rw [decide_eq_false hpos]
              have HHd : Hid (headP cnt k = []) := by show _ = _; unfold headP; rw [if_neg hpos]
              clear hpos hDD
              by_cases hkl : k < n
              · have hkli : (k : Int) < (n : Int) := by omega
                obtain ⟨b, o, ⟨oo, oa, ob, oc, om⟩, rfl, hbB, hik, c0, c1, c2, c3, c4⟩ := (HR.out.below HBq.out).insAt hkl
                have hpl := HPl.out _ (List.mem_of_getElem? hik)
                have hom := (HOk.out _ (List.mem_of_getElem? hik)).imm
                simp only at hpl hom
                obtain ⟨h0, h1, h2, h3⟩ := plain_facts hpl
                obtain ⟨op, rfl⟩ : ∃ op : Nat, oo = (op : Int) := ⟨oo.toNat, by omega⟩
                obtain ⟨ra, rfl⟩ : ∃ ra : Nat, oa = (ra : Int) := ⟨oa.toNat, by omega⟩
                obtain ⟨rb, rfl⟩ : ∃ rb : Nat, ob = (rb : Int) := ⟨ob.toNat, by omega⟩
                obtain ⟨rc, rfl⟩ : ∃ rc : Nat, oc = (rc : Int) := ⟨oc.toNat, by omega⟩
                have hdr : code.drop k = ⟨op, ra, rb, rc, om⟩ :: code.drop (k + 1) := by
                  have hkl2 : k < code.length := by rw [HLen.out]; exact hkl
                  rw [List.drop_eq_getElem_cons hkl2]; rw [List.getElem?_eq_getElem hkl2] at hik; injection hik with hik; rw [hik]
                have hsp := show_print op (by omega) ra rb rc om (fun _ => hom.1)
                simp only [Int.toNat_natCast] at hsp
                have hsh := fun W => rshow_any op (by omega) ra rb rc om (by omega) (by omega) (by omega) hom W
                rw [← hsp] at hsh
                obtain ⟨PL, hPL⟩ : ∃ PL, printP (lineToks ⟨op, ra, rb, rc, om⟩) = PL := ⟨_, rfl⟩
                have hPl : PL.length ≤ 175 := by rw [← hPL]; exact print_line_le _ hom
                have hA2 := HA1.out
                rw [hdr, textGo, hPL] at hA2
                rw [hPL] at hsh
                have HA2 : Hid (accOk cnt code T ((acc ++ headP cnt k) ++ (PL ++ [10])) (k + 1)) := by
                  show accOk _ _ _ _ _
                  unfold accOk
                  rw [if_pos (by rw [HLen.out]; omega), ← hA2]
                  simp only [List.append_assoc]
                have HSh := Lib.hid hsh
                clear hsh hA2 hPL hsp hdr hik hpl h0 h1 h2 h3
                go_wp2_with (first
                  | (go_at_call 29
                     refine (HSh.out _).mono ?_
                     rintro e w4 ⟨rfl, hb4⟩
                     have HB4 := Lib.hid (HBq.out.trans (hb4.mono HBq.out.size))
                     clear hb4))
                go_roundw
                case rel =>
                  refine ⟨k + 1, (acc ++ headP cnt k) ++ (PL ++ [10]), ⟨by omega, by go_num, ?_⟩, HA2, HB4.out⟩
                  rw [HHd.out]
                  refine congrArg Value.string (ByteArray.ext (Array.toList_inj.1 ?_))
                  simp [ByteArray.data_append]
                case measure => simp [intOf]; omega
              · obtain rfl : k = n := by omega
                have HA2 : Hid (accOk cnt code T (acc ++ headP cnt k) (k + 1)) := by
                  show accOk _ _ _ _ _
                  have h := HA1.out
                  rw [List.drop_of_length_le (by rw [HLen.out]; exact Nat.le_refl _), textGo] at h
                  unfold accOk
                  rw [if_neg (by rw [HLen.out]; omega), h]
                go_wp2
                go_roundw
                case rel =>
                  refine ⟨k + 1, acc ++ headP cnt k, ⟨by omega, by go_num, ?_⟩, HA2, HBq.out⟩
                  rw [HHd.out]
                  first
                    | (rw [List.append_nil])
                    | (refine congrArg Value.string (ByteArray.ext (Array.toList_inj.1 ?_)); simp [ByteArray.data_append])
                case measure => simp [intOf]
      · obtain rfl : k = n + 1 := by omega
        have HA1 : Hid (acc = T) := by
          have h := HA.out
          unfold accOk at h
          rw [if_neg (by rw [HLen.out]; omega)] at h
          exact h
        have hkni : ¬ ((n + 1 : Nat) : Int) ≤ (n : Int) := by omega
        go_wp2
        go_ret
        exact ⟨by rw [HE.out, ← HA1.out]; rfl, HB.out⟩
end Go.Proofs.YthdlihiehfkceaaDoor

namespace Go.Proofs.YthdlihiehfkceaaDoor
open Go.RowKit
set_option linter.unusedVariables false

set_option maxRecDepth 100000 in
set_option maxHeartbeats 4000000 in
theorem texts_walk (l : List Ins) (A : Option Addr) (n c : Nat) (W : World) (htab : PowTab W) (rd : RdI W W.heap.size A n l) (hok : ∀ t ∈ l, t.Ok) (hnc : n ≤ c) :
    Calls Tryd.prog 3 #[.slice A n c] W fun e w' => e = .returned (.bool true) ∧ Below W.heap.size W w' := by
  have HR := Lib.hid rd
  have HT := Lib.hid htab
  have HOk := Lib.hid hok
  clear rd htab hok
  go_enter Tryd.func3, Tryd.ntmps3
  go_wp2_with fail
  refine (alive4_any _ HT.out).mono ?_
  rintro e w1 ⟨rfl, hb1⟩
  have HB1 := Lib.hid hb1
  have HR1 := Lib.hid ((HR.out.below hb1).more hb1.size)
  have HT1 := Lib.hid (HT.out.below hb1)
  clear hb1
  by_cases hbig : n ≤ 40 ∨ (256 < n ∧ n ≤ 260)
  · have g1 : (decide ((n : Int) > 40) && decide ((n : Int) ≤ 256)) = false := by
      rw [Bool.and_eq_false_iff]
      simp only [decide_eq_false_iff_not]
      omega
    have g2 : decide ((n : Int) > 260) = false := decide_eq_false (by omega)
    have hn : n ≤ 100000 := by omega
    have g3 : ¬ (260 : Int) < (n : Int) := by omega
    rcases hbig with h40 | h256
    · have g4 : ¬ (40 : Int) < (n : Int) := by omega
      have g5 : (n : Int) ≤ 256 := by omega
      clear g1 g2 h40
      go_wp2_with (first
        | (go_at_call 11
           refine (text_any l A n c w1 HR1.out hn HOk.out HT1.out).mono ?_
           rintro e w2 ⟨rfl, hb2⟩
           have HB2 := Lib.hid (HB1.out.trans (hb2.mono HB1.out.size))
           have HR2 := Lib.hid ((HR1.out.below hb2).more hb2.size)
           clear hb2)
        | (go_at_call 12
           refine (rtext_any l A n c w2 HR2.out hn HOk.out).mono ?_
           rintro e w3 ⟨rfl, hb3⟩
           have HB3 := Lib.hid (HB2.out.trans (hb3.mono HB2.out.size))
           clear hb3))
      go_ret
      exact ⟨by simp, HB3.out⟩
    · have g4 : (40 : Int) < (n : Int) := by omega
      have g5 : ¬ (n : Int) ≤ 256 := by omega
      clear g1 g2 h256
      go_wp2_with (first
        | (go_at_call 11
           refine (text_any l A n c w1 HR1.out hn HOk.out HT1.out).mono ?_
           rintro e w2 ⟨rfl, hb2⟩
           have HB2 := Lib.hid (HB1.out.trans (hb2.mono HB1.out.size))
           have HR2 := Lib.hid ((HR1.out.below hb2).more hb2.size)
           clear hb2)
        | (go_at_call 12
           refine (rtext_any l A n c w2 HR2.out hn HOk.out).mono ?_
           rintro e w3 ⟨rfl, hb3⟩
           have HB3 := Lib.hid (HB2.out.trans (hb3.mono HB2.out.size))
           clear hb3))
      go_ret
      exact ⟨by simp, HB3.out⟩
  · by_cases h256 : n ≤ 256
    · have g4 : (40 : Int) < (n : Int) := by omega
      have g5 : (n : Int) ≤ 256 := by omega
      clear hbig h256
      go_wp2
      go_ret
      exact ⟨rfl, HB1.out⟩
    · have g4 : (40 : Int) < (n : Int) := by omega
      have g5 : ¬ (n : Int) ≤ 256 := by omega
      have g6 : (260 : Int) < (n : Int) := by omega
      clear hbig h256
      go_wp2
      go_ret
      exact ⟨rfl, HB1.out⟩
end Go.Proofs.YthdlihiehfkceaaDoor

namespace Go.Proofs.YthdlihiehfkceaaDoor
open Go.ChangeShapes Go.WideShapes Go.RowKit Go.Deep
set_option linter.unusedVariables false

section
variable {H : Type} {enc : TypeId × Value → H} {P : Program} {w : World} {base : Nat} {spare : Nat → Bool} {held : Bool}

theorem flat_at {α : Type} (cells : α → List Value) {size : Nat} (hc : ∀ y, (cells y).length = size) (hs : 0 < size) : ∀ (l : List α) (j : Nat) (u : Value), (l.flatMap cells)[j]? = some u → ∃ i y, l[i]? = some y ∧ j = i * size + j % size ∧ (cells y)[j % size]? = some u
  | [], j, u, h => by simp at h
  | y :: l, j, u, h => by
    rw [List.flatMap_cons] at h
    by_cases hj : j < size
    · rw [List.getElem?_append_left (by rw [hc]; exact hj)] at h
      exact ⟨0, y, rfl, by rw [Nat.mod_eq_of_lt hj]; omega, by rw [Nat.mod_eq_of_lt hj]; exact h⟩
    · rw [List.getElem?_append_right (by rw [hc]; omega), hc] at h
      obtain ⟨i, z, hz, he, hu⟩ := flat_at cells hc hs l (j - size) u h
      have hm : (j - size) % size = j % size := by rw [← Nat.add_mod_right, Nat.sub_add_cancel (by omega)]
      rw [hm] at he hu
      exact ⟨i + 1, z, by simpa using hz, by rw [Nat.add_mul]; omega, hu⟩
theorem flat_len {α : Type} (cells : α → List Value) {size : Nat} (hc : ∀ y, (cells y).length = size) (l : List α) : (l.flatMap cells).length = l.length * size := by
  induction l with
  | nil => simp
  | cons y l ih => rw [List.flatMap_cons, List.length_append, hc, ih, List.length_cons, Nat.add_mul]; omega

theorem list_of {α : Type} (Q : Nat → α → Prop) : ∀ n : Nat, (∀ i, i < n → ∃ y, Q i y) → ∃ l : List α, l.length = n ∧ ∀ i y, l[i]? = some y → Q i y
  | 0, _ => ⟨[], rfl, fun i y h => by simp at h⟩
  | n + 1, h => by
    obtain ⟨l, hl, hq⟩ := list_of Q n (fun i hi => h i (by omega))
    obtain ⟨y, hy⟩ := h n (by omega)
    refine ⟨l ++ [y], by simp [hl], fun i z hz => ?_⟩
    by_cases hi : i < n
    · rw [List.getElem?_append_left (by omega)] at hz
      exact hq i z hz
    · rw [List.getElem?_append_right (by omega)] at hz
      have h0 : i - l.length = 0 := by
        rcases Nat.eq_zero_or_pos (i - l.length) with h | h
        · exact h
        · rw [List.getElem?_eq_none (by simp; omega)] at hz; cases hz
      rw [h0] at hz
      obtain rfl : y = z := by simpa using hz
      obtain rfl : i = n := by omega
      exact hy

/-- A slice of whatever elements: it reads as their cells. -/
theorem read_slice {α : Type} (cells : α → List Value) (good : α → Prop) {size : Nat} (hcs : ∀ y, (cells y).length = size) (hs : 0 < size) {r : Reach} {b0 : Nat} {t e : TypeId} {v : Value} {d : DataW H} {p : List MemPlace}
    (ht : P.underlying t = some (.slice e)) (hC : P.cellsOf e = size) (hel : ∀ n cs x, DataW.trod enc P w base spare held n e cs = some x → ∃ y, cs = cells y ∧ good y)
    (hval : Value.okWide P w r b0 t v) (h : DataW.Trod enc P w base spare held t v d p) :
    ∃ A n c, ∃ l : List α, v = .slice A n c ∧ Rd w w.heap.size size A n (l.flatMap cells) ∧ l.length = n ∧ (∀ y ∈ l, good y) ∧ n ≤ c := by
  obtain ⟨A, n, c, rfl⟩ := okWide_slice ht hval
  obtain ⟨fuel, hf⟩ := h
  rcases Deep.open_slice ht hf with ⟨hv, _⟩ | ⟨a, len, cap, m, q, D, Pl, hv, hb, hl, hm, hmm, hx, hi⟩
  · simp [Value.cells] at hv
    obtain ⟨rfl, rfl, rfl⟩ := hv
    exact ⟨none, 0, 0, [], rfl, Rd.nil _ _ _ _, rfl, fun y hy => by simp at hy, Nat.le_refl _⟩
  · simp [Value.cells] at hv
    obtain ⟨rfl, rfl, rfl⟩ := hv
    have hle : n ≤ m := by rw [hmm]; split <;> omega
    have hQ : ∀ i, i < n → ∃ y : α, good y ∧ ∀ j u, (cells y)[j]? = some u → w.cell? (a.add (i * size + j)) = some u := by
      intro i hin
      obtain ⟨cs', hc, htr⟩ := hi i (by omega)
      obtain ⟨y, rfl, hg⟩ := hel _ _ _ htr
      rw [hC] at hc
      obtain ⟨_, hcl, hat⟩ := World.cells?_some hc
      refine ⟨y, hg, fun j u hu => ?_⟩
      have hj : j < size := by rw [← hcs y]; exact (List.getElem?_eq_some_iff.1 hu).1
      have := hat j hj
      rw [hu] at this
      rw [← Deep.add_add]
      exact this
    obtain ⟨l, hll, hlq⟩ := list_of _ n hQ
    refine ⟨_, n, c, l, rfl, ⟨by rw [flat_len cells hcs, hll], by omega, fun hn => ?_⟩, hll, fun y hy => ?_, hl⟩
    · obtain ⟨y0, hy0⟩ : ∃ y, l[0]? = some y := ⟨l[0]'(by omega), List.getElem?_eq_getElem _⟩
      obtain ⟨u0, hu0⟩ : ∃ u, (cells y0)[0]? = some u := ⟨(cells y0)[0]'(by rw [hcs]; omega), List.getElem?_eq_getElem _⟩
      have h0 := (hlq 0 y0 hy0).2 0 u0 hu0
      have hsp : a.spot = none := by simpa [Addr.add] using World.cell?_spot h0
      obtain ⟨b, o, sp⟩ := a
      subst hsp
      have hblk := World.block_lt_of_cell? w _ h0
      refine ⟨b, o, rfl, by simpa [Addr.add] using hblk, fun j u hu => ?_⟩
      obtain ⟨i, y, hy, hj, hu'⟩ := flat_at cells hcs hs l j u hu
      have := (hlq i y hy).2 (j % size) u hu'
      rw [← hj] at this
      unfold Addr.add at this
      split at this
      · rename_i h0; rw [h0]; exact this
      · exact this
    · obtain ⟨i, hi', he⟩ := List.getElem_of_mem hy
      exact (hlq i y (by rw [List.getElem?_eq_getElem hi', he])).1

theorem wf_i64 {n : Int} (h : (Lit.int .i64 n).wf = true) : -9223372036854775808 ≤ n ∧ n ≤ 9223372036854775807 := by
  simpa [Lit.wf, IntKind.min, IntKind.max, IntKind.signed, IntKind.bits] using h
theorem wf_u64 {n : Int} (h : (Lit.int .u64 n).wf = true) : 0 ≤ n ∧ n ≤ 18446744073709551615 := by
  simpa [Lit.wf, IntKind.min, IntKind.max, IntKind.signed, IntKind.bits] using h
theorem wf_u8 {n : Int} (h : (Lit.int .u8 n).wf = true) : 0 ≤ n ∧ n ≤ 255 := by
  simpa [Lit.wf, IntKind.min, IntKind.max, IntKind.signed, IntKind.bits] using h

/-- A slice of bytes. -/
theorem read_bytes {r : Reach} {b0 : Nat} {t e : TypeId} {v : Value} {d : DataW H} {p : List MemPlace} (ht : P.underlying t = some (.slice e)) (he : P.underlying e = some (.int .u8)) (hC : P.cellsOf e = 1)
    (hval : Value.okWide P w r b0 t v) (h : DataW.Trod enc P w base spare held t v d p) : ∃ A n c bs, v = .slice A n c ∧ RdB w w.heap.size A n bs ∧ Byts bs ∧ n ≤ c := by
  obtain ⟨A, n, c, l, hv, hr, _, hg, hc⟩ := read_slice (fun x : Int => [Value.int .u8 x]) (fun x => 0 ≤ x ∧ x ≤ 255) (size := 1) (fun _ => rfl) (by decide) ht hC
    (fun n cs x hx => by obtain ⟨z, hz, _, hw⟩ := DataW.trod_int he hx; exact ⟨z, hz, wf_u8 hw⟩) hval h
  refine ⟨A, n, c, l, hv, ?_, hg, hc⟩
  have e : ∀ l : List Int, byt l = l.flatMap fun x : Int => [Value.int .u8 x] := fun l => by
    induction l with
    | nil => rfl
    | cons x l ih => rw [List.flatMap_cons, ← ih]; rfl
  show Rd _ _ _ _ _ _
  rw [e]; exact hr

theorem trod_ins {n : Nat} {t t0 t1 t2 t3 t4 : TypeId} {f0 f1 f2 f3 f4 : Field} {cs : List Value} {x : DataW H × List MemPlace} (hs : P.underlying t = some (.struct #[f0, f1, f2, f3, f4])) (hone : oneCellFields P #[f0, f1, f2, f3, f4] = true) (hC : P.cellsOf t = 5)
    (h0 : P.underlying f0.type = some (.int .i64)) (h1 : P.underlying f1.type = some (.int .i64)) (h2 : P.underlying f2.type = some (.int .i64)) (h3 : P.underlying f3.type = some (.int .i64)) (h4 : P.underlying f4.type = some (.int .u64))
    (h : DataW.trod enc P w base spare held n t cs = some x) : ∃ i : Ins, cs = i.cells ∧ i.Ok := by
  obtain ⟨xs, n', _, hx, hl, hlen, hg⟩ := DataW.trod_struct hs h
  rw [hC] at hl
  obtain ⟨o0, k0⟩ := hone_of hone 0 f0 rfl
  obtain ⟨o1, k1⟩ := hone_of hone 1 f1 rfl
  obtain ⟨o2, k2⟩ := hone_of hone 2 f2 rfl
  obtain ⟨o3, k3⟩ := hone_of hone 3 f3 rfl
  obtain ⟨o4, k4⟩ := hone_of hone 4 f4 rfl
  match cs, hl, xs, hlen with
  | [c0, c1, c2, c3, c4], _, [y0, y1, y2, y3, y4], _ =>
    have g0 : DataW.trod enc P w base spare held n' f0.type [c0] = some y0 := by simpa [o0, k0] using hg 0 f0 rfl
    have g1 : DataW.trod enc P w base spare held n' f1.type [c1] = some y1 := by simpa [o1, k1] using hg 1 f1 rfl
    have g2 : DataW.trod enc P w base spare held n' f2.type [c2] = some y2 := by simpa [o2, k2] using hg 2 f2 rfl
    have g3 : DataW.trod enc P w base spare held n' f3.type [c3] = some y3 := by simpa [o3, k3] using hg 3 f3 rfl
    have g4 : DataW.trod enc P w base spare held n' f4.type [c4] = some y4 := by simpa [o4, k4] using hg 4 f4 rfl
    obtain ⟨z0, e0, _, w0⟩ := DataW.trod_int h0 g0
    obtain ⟨z1, e1, _, w1⟩ := DataW.trod_int h1 g1
    obtain ⟨z2, e2, _, w2⟩ := DataW.trod_int h2 g2
    obtain ⟨z3, e3, _, w3⟩ := DataW.trod_int h3 g3
    obtain ⟨z4, e4, _, w4⟩ := DataW.trod_int h4 g4
    simp only [List.cons.injEq, and_true] at e0 e1 e2 e3 e4
    subst e0; subst e1; subst e2; subst e3; subst e4
    exact ⟨⟨z0, z1, z2, z3, z4⟩, rfl, wf_i64 w0, wf_i64 w1, wf_i64 w2, wf_i64 w3, wf_u64 w4⟩

/-- An instruction by value. -/
theorem read_ins {r : Reach} {b0 : Nat} {t : TypeId} {f0 f1 f2 f3 f4 : Field} {v : Value} {d : DataW H} {p : List MemPlace} (hs : P.underlying t = some (.struct #[f0, f1, f2, f3, f4])) (hone : oneCellFields P #[f0, f1, f2, f3, f4] = true) (hC : P.cellsOf t = 5)
    (h0 : P.underlying f0.type = some (.int .i64)) (h1 : P.underlying f1.type = some (.int .i64)) (h2 : P.underlying f2.type = some (.int .i64)) (h3 : P.underlying f3.type = some (.int .i64)) (h4 : P.underlying f4.type = some (.int .u64))
    (hval : Value.okWide P w r b0 t v) (h : DataW.Trod enc P w base spare held t v d p) :
    ∃ i : Ins, v = .agg #[.int .i64 i.op, .int .i64 i.a, .int .i64 i.b, .int .i64 i.c, .int .u64 i.imm] ∧ i.Ok := by
  obtain ⟨cs, rfl, hsz⟩ := okWide_struct hs hval
  obtain ⟨fuel, hf⟩ := h
  obtain ⟨i, hi, hok⟩ := trod_ins (t0 := 0) (t1 := 0) (t2 := 0) (t3 := 0) (t4 := 0) hs hone hC h0 h1 h2 h3 h4 hf
  refine ⟨i, ?_, hok⟩
  have : cs.toList = i.cells := by simpa [Value.cells] using hi
  cases cs
  simp only at this
  subst this
  rfl
/-- A slice of instructions. -/
theorem read_inss {r : Reach} {b0 : Nat} {t e : TypeId} {f0 f1 f2 f3 f4 : Field} {v : Value} {d : DataW H} {p : List MemPlace} (ht : P.underlying t = some (.slice e)) (hs : P.underlying e = some (.struct #[f0, f1, f2, f3, f4])) (hone : oneCellFields P #[f0, f1, f2, f3, f4] = true) (hC : P.cellsOf e = 5)
    (h0 : P.underlying f0.type = some (.int .i64)) (h1 : P.underlying f1.type = some (.int .i64)) (h2 : P.underlying f2.type = some (.int .i64)) (h3 : P.underlying f3.type = some (.int .i64)) (h4 : P.underlying f4.type = some (.int .u64))
    (hval : Value.okWide P w r b0 t v) (h : DataW.Trod enc P w base spare held t v d p) :
    ∃ A n c l, v = .slice A n c ∧ RdI w w.heap.size A n l ∧ (∀ i ∈ l, i.Ok) ∧ n ≤ c := by
  obtain ⟨A, n, c, l, hv, hr, _, hg, hc⟩ := read_slice Ins.cells Ins.Ok (size := 5) (fun _ => rfl) (by decide) ht hC
    (fun n cs x hx => trod_ins (t0 := 0) (t1 := 0) (t2 := 0) (t3 := 0) (t4 := 0) hs hone hC h0 h1 h2 h3 h4 hx) hval h
  exact ⟨A, n, c, l, hv, hr, hg, hc⟩
end
end Go.Proofs.YthdlihiehfkceaaDoor

namespace Go.Proofs.YthdlihiehfkceaaDoor
open Go.ChangeShapes Go.WideShapes Go.RowKit Go.Deep
set_option linter.unusedVariables false

section
variable {H : Type} {enc : TypeId × Value → H} {P : Program} {w : World} {base : Nat} {spare : Nat → Bool} {held : Bool}
theorem trod_tok {n : Nat} {t : TypeId} {f0 f1 f2 f3 f4 : Field} {cs : List Value} {x : DataW H × List MemPlace} (hs : P.underlying t = some (.struct #[f0, f1, f2, f3, f4])) (hone : oneCellFields P #[f0, f1, f2, f3, f4] = true) (hC : P.cellsOf t = 5)
    (h0 : P.underlying f0.type = some (.int .i64)) (h1 : P.underlying f1.type = some .string) (h2 : P.underlying f2.type = some (.int .u64)) (h3 : P.underlying f3.type = some (.int .i64)) (h4 : P.underlying f4.type = some (.int .i64))
    (h : DataW.trod enc P w base spare held n t cs = some x) : ∃ i : Tok, cs = i.cells ∧ i.Ok := by
  obtain ⟨xs, n', _, hx, hl, hlen, hg⟩ := DataW.trod_struct hs h
  rw [hC] at hl
  obtain ⟨o0, k0⟩ := hone_of hone 0 f0 rfl
  obtain ⟨o1, k1⟩ := hone_of hone 1 f1 rfl
  obtain ⟨o2, k2⟩ := hone_of hone 2 f2 rfl
  obtain ⟨o3, k3⟩ := hone_of hone 3 f3 rfl
  obtain ⟨o4, k4⟩ := hone_of hone 4 f4 rfl
  match cs, hl, xs, hlen with
  | [c0, c1, c2, c3, c4], _, [y0, y1, y2, y3, y4], _ =>
    have g0 : DataW.trod enc P w base spare held n' f0.type [c0] = some y0 := by simpa [o0, k0] using hg 0 f0 rfl
    have g1 : DataW.trod enc P w base spare held n' f1.type [c1] = some y1 := by simpa [o1, k1] using hg 1 f1 rfl
    have g2 : DataW.trod enc P w base spare held n' f2.type [c2] = some y2 := by simpa [o2, k2] using hg 2 f2 rfl
    have g3 : DataW.trod enc P w base spare held n' f3.type [c3] = some y3 := by simpa [o3, k3] using hg 3 f3 rfl
    have g4 : DataW.trod enc P w base spare held n' f4.type [c4] = some y4 := by simpa [o4, k4] using hg 4 f4 rfl
    obtain ⟨z0, e0, _, w0⟩ := DataW.trod_int h0 g0
    obtain ⟨z1, e1, _, w1⟩ := DataW.trod_string h1 g1
    obtain ⟨z2, e2, _, w2⟩ := DataW.trod_int h2 g2
    obtain ⟨z3, e3, _, w3⟩ := DataW.trod_int h3 g3
    obtain ⟨z4, e4, _, w4⟩ := DataW.trod_int h4 g4
    simp only [List.cons.injEq, and_true] at e0 e1 e2 e3 e4
    subst e0; subst e1; subst e2; subst e3; subst e4
    exact ⟨⟨z0, z1, z2, z3, z4⟩, rfl, wf_i64 w0, w1, wf_u64 w2, wf_i64 w3, wf_i64 w4⟩
/-- A slice of tokens. -/
theorem read_toks {r : Reach} {b0 : Nat} {t e : TypeId} {f0 f1 f2 f3 f4 : Field} {v : Value} {d : DataW H} {p : List MemPlace} (ht : P.underlying t = some (.slice e)) (hs : P.underlying e = some (.struct #[f0, f1, f2, f3, f4])) (hone : oneCellFields P #[f0, f1, f2, f3, f4] = true) (hC : P.cellsOf e = 5)
    (h0 : P.underlying f0.type = some (.int .i64)) (h1 : P.underlying f1.type = some .string) (h2 : P.underlying f2.type = some (.int .u64)) (h3 : P.underlying f3.type = some (.int .i64)) (h4 : P.underlying f4.type = some (.int .i64))
    (hval : Value.okWide P w r b0 t v) (h : DataW.Trod enc P w base spare held t v d p) :
    ∃ A n c l, v = .slice A n c ∧ RdT w w.heap.size A n l ∧ (∀ i ∈ l, i.Ok) ∧ n ≤ c := by
  obtain ⟨A, n, c, l, hv, hr, _, hg, hc⟩ := read_slice Tok.cells Tok.Ok (size := 5) (fun _ => rfl) (by decide) ht hC
    (fun n cs x hx => trod_tok hs hone hC h0 h1 h2 h3 h4 hx) hval h
  exact ⟨A, n, c, l, hv, hr, hg, hc⟩
end
/-- The list of tables that the rows of this chapter list. -/
abbrev tabs3 : List (String × DataW Unit) := [("math/bits.deBruijn32tab", Rows.laid_math_bits_deBruijn32tab), ("math/bits.deBruijn64tab", Rows.laid_math_bits_deBruijn64tab), ("internal/strconv.uint64pow10", Rows.laid_internal_strconv_uint64pow10)]
theorem pow_laid : (Rows.laid_internal_strconv_uint64pow10 : DataW Unit) = Lib.tabData .u64 Lib.pow10Tab := by kernel_rfl
theorem gPow : Tryd.prog.globalNamed "internal/strconv.uint64pow10" = some 0 := by kernel_rfl
theorem tPow : (Tryd.prog.globals[0]?).map (·.type) = some 146 := by kernel_rfl
theorem pow_of_laid {W : World} (h : laidMetH Tryd.prog tabs3 W) : PowTab W := by
  rw [MakeChecks.laidMetH_plain _ _ _ (by kernel_rfl)] at h
  obtain ⟨ps, ⟨g0, t0, cs0, f0, p0, q0, hg0, ht0, hv0, hd0, ⟨g1, t1, cs1, f1, p1, q1, hg1, ht1, hv1, hd1, ⟨g2, t2, cs2, f2, p2, q2, hg2, ht2, hv2, hd2, _, _⟩, _⟩, _⟩, _, _⟩ := h
  obtain rfl := Option.some.inj (gPow.symm.trans hg2)
  obtain rfl := Option.some.inj (tPow.symm.trans ht2)
  rw [pow_laid] at hd2
  show _ = _
  rw [hv2, ← Lib.cells_of_tab Tryd.underlying146 Tryd.underlying33 (by kernel_rfl) (by kernel_rfl) hd2]
theorem met_laidAll (os : Os) (args : Array Value) : laidMetH Tryd.prog tabs3 ((World.laidAll Tryd.prog os tabs3).forCall (fun _ _ => 0) ⟨#[], args, []⟩).memory := by
  rw [MakeChecks.laidMetH_plain _ _ _ (by kernel_rfl)]; exact laidMet_laidAll _ (by kernel_rfl) (by kernel_rfl)
end Go.Proofs.YthdlihiehfkceaaDoor
