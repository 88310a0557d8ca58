/-
  Chapter 19: contract of tumblerref19.Join. Printed by gen/lje.py. Chapter 19: contract of tumblerlaw19.as. Printed by gen/ljf.py.
-/
import Derived.Test.YtddaeaimimdonaaLjM
import Derived.Test.YtddaeaimimdonaaLjN
import Derived.Test.YtddaeaimimdonaaLkF
namespace Go.Proofs.Ytddaeaimimdonaa
open Go.RowKit
set_option linter.unusedVariables false

theorem PartOk.oneR {code : List Ins} {args : List PArg} {k : Nat} (h : PartOk code args k) (hok : ∀ i ∈ code, i.Ok) (ha : ∀ a ∈ args, a.Ok) (hk : k ≤ 1000) : ∀ (j : Nat) (i : Ins), code[j]? = some i → OneR i code.length args := fun j i hi => by
  refine ⟨h.one hok ha hk i (List.mem_of_getElem? hi), fun hj => ?_⟩
  have ho := (right_parts h.right).2.2.1 j (List.getElem?_eq_some_iff.1 hi).1
  rw [oneAt, hi] at ho
  have ho : oneE code.length j i = 0 := ho
  obtain ⟨hp, _, _⟩ := oneE_zero ho
  have h1 : ¬ 1 < regsOf i.op := by rcases hj with e | e | e <;> rw [e] <;> decide
  have h2 : ¬ 2 < regsOf i.op := by omega
  have hp : plainB i.op i.a i.b i.c i.imm = true := hp
  unfold plainB at hp
  rw [decide_eq_false h1, decide_eq_false h2] at hp
  simp only [Bool.and_eq_true, fieldB, Bool.false_and, Bool.or_false, decide_eq_true_eq] at hp
  exact ⟨hp.1.1.2, hp.1.2⟩
theorem RdP.at2 {w : World} {B n b o : Nat} {l : List Prt} (h : RdP w B (some ⟨b, o, none⟩) n l) {k : Nat} (hk : k < n) {pA : Option Addr} {pn pc : Nat} {code : List Ins} {b0 b1 b2 b3 : PArg} (hl : l[k]? = some ⟨pA, pn, pc, code, [b0, b1, b2, b3]⟩) :
    w.cell? ⟨b, o + k * 9, none⟩ = some (.slice pA pn pc) ∧
      w.cell? ⟨b, o + k * 9 + 1, none⟩ = some (.int .i64 b0.kind) ∧ w.cell? ⟨b, o + k * 9 + 2, none⟩ = some (.int .u64 b0.val) ∧ w.cell? ⟨b, o + k * 9 + 3, none⟩ = some (.int .i64 b1.kind) ∧ w.cell? ⟨b, o + k * 9 + 4, none⟩ = some (.int .u64 b1.val) ∧ w.cell? ⟨b, o + k * 9 + 5, none⟩ = some (.int .i64 b2.kind) ∧ w.cell? ⟨b, o + k * 9 + 6, none⟩ = some (.int .u64 b2.val) ∧ w.cell? ⟨b, o + k * 9 + 7, none⟩ = some (.int .i64 b3.kind) ∧ w.cell? ⟨b, o + k * 9 + 8, none⟩ = some (.int .u64 b3.val) := by
  obtain ⟨b', o', qA, qn, qc, code', e0, e1, e2, e3, eA, hbB, hlk, hin, c⟩ := h.at_ hk
  injection eA with eA
  injection eA with eb eo _
  subst eb eo
  have e := hl.symm.trans hlk
  simp only [Option.some.injEq, Prt.mk.injEq, List.cons.injEq, and_true] at e
  obtain ⟨rfl, rfl, rfl, rfl, rfl, rfl, rfl, rfl⟩ := e
  exact c
theorem startL_pos {out : List Ins} {k : Nat} {code : List Ins} (h : k ≠ 0) : startL out k code = out ++ clearL code := by unfold startL; rw [if_neg h]
theorem startL_zero {out : List Ins} {k : Nat} {code : List Ins} (h : k = 0) : startL out k code = out := by unfold startL; rw [if_pos h]
theorem ROut.app {w : World} {v : Value} {base : Nat} {L R : List Ins} {m : Nat} (h : w.ownsRow base 43 5 v (L.length + m) (insCells L ++ insCells R)) (hm : R.length = m) : ROut w v base (L ++ R) := by
  unfold ROut
  rw [insCells_append, List.length_append, hm]; exact h
theorem ROut.rd {w : World} {v : Value} {base : Nat} {L : List Ins} (h : ROut w v base L) : ∃ A c, v = .slice A L.length c ∧ RdI w w.heap.size A L.length L := by
  obtain ⟨A, c, e, _, hr⟩ := Rd.of_own_cap h
  exact ⟨A, c, e, hr⟩
theorem ROut.below {w w' : World} {v : Value} {base : Nat} {L : List Ins} (h : ROut w v base L) (hb : Below w.heap.size w w') : ROut w' v base L := own_below h hb
set_option maxRecDepth 100000 in
set_option maxHeartbeats 16000000 in
theorem jjoin_any (l : List Prt) (A : Option Addr) (n c : Nat) (w : World) (hl : RdP w w.heap.size A n l) :
    Calls Try.prog 32 #[.slice A n c] w (JoinPost l w) := by
  obtain ⟨i0, hi0, hz0, hz1, hz2⟩ := info_parts info_insL
  have HL := Lib.hid hl
  have HLen := Lib.hid hl.len
  clear hl
  go_enter Try.func32, Try.ntmps32
  by_cases hn0 : n = 0
  · subst hn0
    have HE : Hid (joinL l = ([], 4)) := by show _ = _; unfold joinL; rw [if_pos HLen.out]
    go_wp2
    go_ret2
    exact JoinPost.fail HE.out (Below.refl _ _)
  have hn0i : ((n : Int) == 0) = false := by simpa using hn0
  by_cases hn4 : 4 < n
  · have HE : Hid (joinL l = ([], 3)) := by show _ = _; unfold joinL; rw [HLen.out, if_neg hn0, if_pos hn4]
    have hn4i : (4 : Int) < (n : Int) := by omega
    go_wp2
    go_ret2
    exact JoinPost.fail HE.out (Below.refl _ _)
  have hn4i : ¬ ((4 : Int) < (n : Int)) := by omega
  go_wp2
  go_loopw [4, 5] (fun i _a wr => ∃ k : Nat, (k ≤ n ∧ i = .int .i64 k) ∧ Hid (faultsL l 0 = faultsL (l.drop k) k) ∧ Hid (Below w.heap.size w wr)) (fun i _ _ => n - (intOf i).toNat)
  case atStart => exact ⟨0, ⟨by omega, rfl⟩, (by show _ = _; rfl), Below.refl _ _⟩
  case round =>
    obtain ⟨k, ⟨hk, rfl⟩, HF, HB⟩ := hrel
    by_cases hlt : k < n
    · have hlti : (k : Int) < (n : Int) := by omega
      obtain ⟨b, o, pA, pn, pc, code, b0, b1, b2, b3, rfl, hbB, hlk, hin, c0, c1, c2, c3, c4, c5, c6, c7, c8⟩ := (HL.out.below HB.out).at_ hlt
      have HC := Lib.hid (faults_cons hlk)
      have HIn := Lib.hid hin
      clear hlk hin
      go_wp2_with fail
      refine (jfault_any code pA pn pc b0.kind b1.kind b2.kind b3.kind b0.val b1.val b2.val b3.val k _ (HIn.out.code.more HB.out.size) HIn.out.ok (by omega)).mono ?_
      rintro e W4 ⟨rfl, hb4⟩
      have HB4 := Lib.hid (HB.out.trans (hb4.mono HB.out.size))
      obtain ⟨z, hz⟩ : ∃ z, faultL code [⟨b0.kind, b0.val⟩, ⟨b1.kind, b1.val⟩, ⟨b2.kind, b2.val⟩, ⟨b3.kind, b3.val⟩] k = z := ⟨_, rfl⟩
      have HZ : Hid (faultL code [b0, b1, b2, b3] k = z) := hz
      rw [hz]
      clear hz hb4 c0 c1 c2 c3 c4 c5 c6 c7 c8
      by_cases hz0 : z = 0
      · subst hz0
        have HF2 : Hid (faultsL l 0 = faultsL (l.drop (k + 1)) (k + 1)) := by
          show _ = _
          rw [HF.out, HC.out]
          rw [HZ.out, if_neg (by decide)]
        go_wp2
        go_roundw
        case rel => exact ⟨k + 1, ⟨by omega, by go_num⟩, HF2, HB4⟩
        case measure => simp [intOf]; omega
      · have hzb : (z != 0) = true := by simpa using hz0
        have HE : Hid (joinL l = ([], z)) := by
          show _ = _
          have hf : faultsL l 0 = z := by
            rw [HF.out, HC.out]
            rw [HZ.out, if_pos hz0]
          unfold joinL
          rw [HLen.out, if_neg hn0, if_neg hn4, if_pos (by rw [hf]; exact hz0), hf]
        go_wp2
        go_ret2
        exact JoinPost.fail HE.out HB4.out
    · obtain rfl : n = k := by omega
      have hge : ¬ ((n : Int) < (n : Int)) := by omega
      have HF0 : Hid (faultsL l 0 = 0) := by show _ = _; rw [HF.out, List.drop_eq_nil_of_le (by rw [HLen.out]; exact Nat.le_refl _)]; rfl
      have HP : Hid (∀ (j : Nat) (q : Prt), l[j]? = some q → PartOk q.code q.args j) := fun j q hq => part_ok (by have := faults_all l 0 HF0.out j q hq; simpa using this)
      have HAl := Lib.hid (allL_len (l := l) fun k q hq => (HP.out k q hq).len.2)
      go_upto_region 12 with fail
      obtain ⟨X, hX⟩ : ∃ X, wr.alloc (.cells #[] 43) = X := ⟨_, rfl⟩
      rw [hX]
      have HOX : Hid (ROut X (.slice (some ⟨wr.heap.size, 0, none⟩) 0 0) w.heap.size (allL l 0)) := by
        show X.ownsRow w.heap.size 43 5 _ 0 []
        rw [← hX]; exact own_new wr #[] _ (size := 5) (m := 0) rfl (by simp [maxLen]) HB.out.size
      have HBX : Hid (Below w.heap.size w X) := by show Below _ _ _; rw [← hX]; exact HB.out.alloc HB.out.size _
      clear hX
      go_wp2
      go_loopw [6, 7, 8, 9] (fun s6 i _a _b wq => ∃ (k : Nat) (ov : Value), (k ≤ n ∧ i = .int .i64 k) ∧ ov = s6 ∧ Hid (ROut wq ov w.heap.size (allL l k)) ∧ Hid (Below w.heap.size w wq)) (fun _ i _ _ _ => n - (intOf i).toNat)
      case atStart => exact ⟨0, _, ⟨by omega, rfl⟩, rfl, HOX, HBX⟩
      case round =>
        clear HOX HBX
        obtain ⟨k, ov, ⟨hk, rfl⟩, rfl, HO, HBk⟩ := hrel
        by_cases hlt : k < n
        · have hlti : (k : Int) < (n : Int) := by omega
          obtain ⟨b, o, pA, pn, pc, code, b0, b1, b2, b3, rfl, hbB, hlk, hin, c0, c1, c2, c3, c4, c5, c6, c7, c8⟩ := (HL.out.below HBk.out).at_ hlt
          have HSn := Lib.hid (allL_snoc hlk)
          have HPk := Lib.hid (HP.out _ _ hlk)
          have HIn := Lib.hid hin
          have HLk := Lib.hid hlk
          have HAk := Lib.hid (HAl.out k (by rw [HLen.out]; omega))
          have HCl : Hid (code.length = pn) := hin.code.insLen
          have hpn : pn ≤ 256 := by have h1 : code.length ≤ 256 := HPk.out.len.2; have := HCl.out; omega
          clear hlk hin
          by_cases hk0 : k = 0
          · have hk0i : ¬ ((0 : Int) < (k : Int)) := by omega
            have HO2 : Hid (ROut wr ov w.heap.size (startL (allL l k) k code)) := by show ROut _ _ _ _; rw [startL_zero hk0]; exact HO.out
            have HB2 := HBk
            clear HO hk0
            go_upto_region 17 with fail
            obtain ⟨S, hS⟩ : ∃ S, startL (allL l k) k code = S := ⟨_, rfl⟩
            have HSn2 : Hid (allL l (k + 1) = S ++ onesL code [b0, b1, b2, b3] k S.length code.length) := by show _ = _; rw [← hS]; exact HSn.out
            have HSl : Hid (S.length ≤ 5000) := by show _ ≤ _; have := startL_len (allL l k) k code; rw [hS] at this; have := HAk.out; omega
            rw [hS] at HO2
            obtain ⟨A6, c6, rfl, _⟩ := HO2.out.rd
            have hsl := HSl.out
            go_wp2
            go_loopw [6, 9] (fun s6 i wi => ∃ (q : Nat) (iv : Value), (q ≤ pn ∧ i = .int .i64 q) ∧ iv = s6 ∧ Hid (ROut wi iv w.heap.size (S ++ onesL code [b0, b1, b2, b3] k S.length q)) ∧ Hid (Below w.heap.size w wi)) (fun _ i _ => pn - (intOf i).toNat)
            case atStart => exact ⟨0, _, ⟨by omega, rfl⟩, rfl, by show ROut _ _ _ _; rw [show onesL code [b0, b1, b2, b3] k S.length 0 = [] from rfl, List.append_nil]; exact HO2.out, HB2⟩
            case round =>
              clear HO2 HB2
              obtain ⟨q, iv, ⟨hq, rfl⟩, rfl, HOi, HBi⟩ := hrel
              obtain ⟨c0, c1, c2, c3, c4, c5, c6, c7, c8⟩ := (HL.out.below HBi.out).at2 hlt HLk.out
              by_cases hlq : q < pn
              · have hlqi : (q : Int) < (pn : Int) := by omega
                have HON := Lib.hid (oneL_len code [b0, b1, b2, b3] k S.length q)
                have HOS := Lib.hid (onesL_len code [b0, b1, b2, b3] k S.length q)
                have HOQ := Lib.hid (onesL_snoc code [b0, b1, b2, b3] k S.length q)
                go_wp2_with fail
                refine (jone_any S.length q pn pc k pA code b0.kind b1.kind b2.kind b3.kind b0.val b1.val b2.val b3.val _ ((((HL.out.all _ (List.mem_of_getElem? HLk.out)).code.below HBi.out).more HBi.out.size)) hlq (fun i hi => by have := HPk.out.oneR HIn.out.ok HIn.out.argsOk (by omega) q i hi; rw [HCl.out] at this; exact this) (by omega) (by omega) (by have := (beforeL_two code pn).2; omega)).mono ?_
                rintro e W5 ⟨v5, rfl, ho5, hb5⟩
                obtain ⟨OL, hOL⟩ : ∃ OL, oneL code [⟨b0.kind, b0.val⟩, ⟨b1.kind, b1.val⟩, ⟨b2.kind, b2.val⟩, ⟨b3.kind, b3.val⟩] k S.length q = OL := ⟨_, rfl⟩
                rw [hOL] at ho5
                have HOL : Hid (oneL code [b0, b1, b2, b3] k S.length q = OL) := hOL
                obtain ⟨A5, c5', rfl, hr5⟩ := ho5.rd
                obtain ⟨IL, hIL⟩ : ∃ IL, S ++ onesL code [b0, b1, b2, b3] k S.length q = IL := ⟨_, rfl⟩
                have HILl : Hid (IL.length ≤ 6000) := by show _ ≤ _; rw [← hIL, List.length_append]; have := HOS.out.2; omega
                have HIL2 : Hid (S ++ onesL code [b0, b1, b2, b3] k S.length (q + 1) = IL ++ OL) := by show _ = _; rw [HOQ.out, HOL.out, ← List.append_assoc, hIL]
                have HOl : Hid (OL.length ≤ 2) := by show _ ≤ _; have := HON.out.2; rw [HOL.out] at this; exact this
                rw [hIL] at HOi
                have HO5 := Lib.hid (HOi.out.below hb5)
                have HR5 := Lib.hid hr5
                have HB5 := Lib.hid (HBi.out.trans (hb5.mono HBi.out.size))
                have hz5 := HB5.out.size
                clear hOL hIL ho5 hr5 hb5 c0 c1 c2 c3 c4 c5 c6 c7 c8
                have tok1 : True := trivial
                go_wp2_with (first
                  | (at_builtin
                     have _t := tok1
                     go_must (
                       refine wpList_app _ rfl (.tmp 59) (.tmp 67) 23 rfl w.heap.size 43 i0 _ 5 40 Try.underlying23 hi0 hz0 hz1 hz2 rfl (by omega) _ _ _ rfl HO5.out _ _ _ _ _ rfl HR5.out (insCells_one _) ?_ ?_ ?_ ?_
                       · have := HILl.out; have := HOl.out; simp only [maxLen]; omega
                       · have := HILl.out; have := HOl.out; omega
                       · exact hz5
                       intro v6 w6 hown6 hg6 _
                       have HO6 := Lib.hid hown6
                       have HB6 := Lib.hid (below_own HB5.out HO5.out hg6 (Nat.le_refl _) HB5.out.size)
                       clear hown6 hg6 _t tok1))
                  | fail)
                go_roundw
                case rel => exact ⟨q + 1, _, ⟨by omega, by go_num⟩, rfl, by show ROut _ _ _ _; rw [HIL2.out]; exact ROut.app HO6.out rfl, HB6⟩
                case measure => simp [intOf]; omega
              · obtain rfl : pn = q := by omega
                go_wp2
                go_roundw
                case rel => exact ⟨k + 1, _, ⟨by omega, by go_num⟩, rfl, by show ROut _ _ _ _; rw [HSn2.out, HCl.out]; exact HOi.out, HBi⟩
                case measure => simp [intOf]; omega
          · have hk0i : (0 : Int) < (k : Int) := by omega
            go_wp2_with fail
            refine (rclear_any code pA pn pc b0.kind b1.kind b2.kind b3.kind b0.val b1.val b2.val b3.val _ (HIn.out.code.more HBk.out.size)).mono ?_
            rintro e W4 ⟨v4, rfl, ho4, hb4⟩
            have HCL := Lib.hid (clearL_len code)
            obtain ⟨CL, hCL⟩ : ∃ CL, clearL code = CL := ⟨_, rfl⟩
            obtain ⟨AL, hAL⟩ : ∃ AL, allL l k = AL := ⟨_, rfl⟩
            have HST : Hid (startL (allL l k) k code = AL ++ CL) := by show _ = _; rw [startL_pos hk0, hAL, hCL]
            rw [hCL] at ho4 HCL
            rw [hAL] at HO
            have HAk2 : Hid (AL.length ≤ 528 * k) := by show _ ≤ _; rw [← hAL]; exact HAk.out
            obtain ⟨A4, c4', rfl, hr4⟩ := ho4.rd
            have HO4 := Lib.hid (HO.out.below hb4)
            have HR4 := Lib.hid hr4
            have HB4 := Lib.hid (HBk.out.trans (hb4.mono HBk.out.size))
            have hz4 := HB4.out.size
            clear hCL hAL ho4 hr4 hb4 c0 c1 c2 c3 c4 c5 c6 c7 c8
            have tok1 : True := trivial
            go_upto_region 17 with (first
              | (at_builtin
                 have _t := tok1
                 go_must (
                   refine wpList_app _ rfl (.tmp 40) (.tmp 45) 23 rfl w.heap.size 43 i0 _ 5 40 Try.underlying23 hi0 hz0 hz1 hz2 rfl (by omega) _ _ _ rfl HO4.out _ _ _ _ _ rfl HR4.out (insCells_one _) ?_ ?_ ?_ ?_
                   · have := HAk2.out; have := HCL.out; simp only [maxLen]; omega
                   · have := HAk2.out; have := HCL.out; omega
                   · exact hz4
                   intro v6 w6 hown6 hg6 _
                   have HO2 : Hid (ROut w6 v6 w.heap.size (startL (allL l k) k code)) := by show ROut _ _ _ _; rw [HST.out]; exact ROut.app hown6 rfl
                   have HB2 := Lib.hid (below_own HB4.out HO4.out hg6 (Nat.le_refl _) HB4.out.size)
                   clear hown6 hg6 _t tok1))
              | fail)
            obtain ⟨S, hS⟩ : ∃ S, startL (allL l k) k code = S := ⟨_, rfl⟩
            have HSn2 : Hid (allL l (k + 1) = S ++ onesL code [b0, b1, b2, b3] k S.length code.length) := by show _ = _; rw [← hS]; exact HSn.out
            have HSl : Hid (S.length ≤ 5000) := by show _ ≤ _; have := startL_len (allL l k) k code; rw [hS] at this; have := HAk.out; omega
            rw [hS] at HO2
            obtain ⟨A6, c6, rfl, _⟩ := HO2.out.rd
            have hsl := HSl.out
            go_wp2
            go_loopw [6, 9] (fun s6 i wi => ∃ (q : Nat) (iv : Value), (q ≤ pn ∧ i = .int .i64 q) ∧ iv = s6 ∧ Hid (ROut wi iv w.heap.size (S ++ onesL code [b0, b1, b2, b3] k S.length q)) ∧ Hid (Below w.heap.size w wi)) (fun _ i _ => pn - (intOf i).toNat)
            case atStart => exact ⟨0, _, ⟨by omega, rfl⟩, rfl, by show ROut _ _ _ _; rw [show onesL code [b0, b1, b2, b3] k S.length 0 = [] from rfl, List.append_nil]; exact HO2.out, HB2⟩
            case round =>
              clear HO2 HB2
              obtain ⟨q, iv, ⟨hq, rfl⟩, rfl, HOi, HBi⟩ := hrel
              obtain ⟨c0, c1, c2, c3, c4, c5, c6, c7, c8⟩ := (HL.out.below HBi.out).at2 hlt HLk.out
              by_cases hlq : q < pn
              · have hlqi : (q : Int) < (pn : Int) := by omega
                have HON := Lib.hid (oneL_len code [b0, b1, b2, b3] k S.length q)
                have HOS := Lib.hid (onesL_len code [b0, b1, b2, b3] k S.length q)
                have HOQ := Lib.hid (onesL_snoc code [b0, b1, b2, b3] k S.length q)
                go_wp2_with fail
                refine (jone_any S.length q pn pc k pA code b0.kind b1.kind b2.kind b3.kind b0.val b1.val b2.val b3.val _ ((((HL.out.all _ (List.mem_of_getElem? HLk.out)).code.below HBi.out).more HBi.out.size)) hlq (fun i hi => by have := HPk.out.oneR HIn.out.ok HIn.out.argsOk (by omega) q i hi; rw [HCl.out] at this; exact this) (by omega) (by omega) (by have := (beforeL_two code pn).2; omega)).mono ?_
                rintro e W5 ⟨v5, rfl, ho5, hb5⟩
                obtain ⟨OL, hOL⟩ : ∃ OL, oneL code [⟨b0.kind, b0.val⟩, ⟨b1.kind, b1.val⟩, ⟨b2.kind, b2.val⟩, ⟨b3.kind, b3.val⟩] k S.length q = OL := ⟨_, rfl⟩
                rw [hOL] at ho5
                have HOL : Hid (oneL code [b0, b1, b2, b3] k S.length q = OL) := hOL
                obtain ⟨A5, c5', rfl, hr5⟩ := ho5.rd
                obtain ⟨IL, hIL⟩ : ∃ IL, S ++ onesL code [b0, b1, b2, b3] k S.length q = IL := ⟨_, rfl⟩
                have HILl : Hid (IL.length ≤ 6000) := by show _ ≤ _; rw [← hIL, List.length_append]; have := HOS.out.2; omega
                have HIL2 : Hid (S ++ onesL code [b0, b1, b2, b3] k S.length (q + 1) = IL ++ OL) := by show _ = _; rw [HOQ.out, HOL.out, ← List.append_assoc, hIL]
                have HOl : Hid (OL.length ≤ 2) := by show _ ≤ _; have := HON.out.2; rw [HOL.out] at this; exact this
                rw [hIL] at HOi
                have HO5 := Lib.hid (HOi.out.below hb5)
                have HR5 := Lib.hid hr5
                have HB5 := Lib.hid (HBi.out.trans (hb5.mono HBi.out.size))
                have hz5 := HB5.out.size
                clear hOL hIL ho5 hr5 hb5 c0 c1 c2 c3 c4 c5 c6 c7 c8
                have tok1 : True := trivial
                go_wp2_with (first
                  | (at_builtin
                     have _t := tok1
                     go_must (
                       refine wpList_app _ rfl (.tmp 59) (.tmp 67) 23 rfl w.heap.size 43 i0 _ 5 40 Try.underlying23 hi0 hz0 hz1 hz2 rfl (by omega) _ _ _ rfl HO5.out _ _ _ _ _ rfl HR5.out (insCells_one _) ?_ ?_ ?_ ?_
                       · have := HILl.out; have := HOl.out; simp only [maxLen]; omega
                       · have := HILl.out; have := HOl.out; omega
                       · exact hz5
                       intro v6 w6 hown6 hg6 _
                       have HO6 := Lib.hid hown6
                       have HB6 := Lib.hid (below_own HB5.out HO5.out hg6 (Nat.le_refl _) HB5.out.size)
                       clear hown6 hg6 _t tok1))
                  | fail)
                go_roundw
                case rel => exact ⟨q + 1, _, ⟨by omega, by go_num⟩, rfl, by show ROut _ _ _ _; rw [HIL2.out]; exact ROut.app HO6.out rfl, HB6⟩
                case measure => simp [intOf]; omega
              · obtain rfl : pn = q := by omega
                go_wp2
                go_roundw
                case rel => exact ⟨k + 1, _, ⟨by omega, by go_num⟩, rfl, by show ROut _ _ _ _; rw [HSn2.out, HCl.out]; exact HOi.out, HBi⟩
                case measure => simp [intOf]; omega
        · obtain rfl : n = k := by omega
          obtain ⟨OL, hOL⟩ : ∃ OL, allL l n = OL := ⟨_, rfl⟩
          have hal := HAl.out n (by rw [HLen.out]; exact Nat.le_refl _)
          rw [hOL] at HO hal
          have HOl : Hid (OL.length ≤ 10000) := by show _ ≤ _; omega
          have HW : Hid (wholeL l = OL ++ [⟨20, 11 + (n : Int), 0, 0, 0⟩]) := by
            show _ = _
            unfold wholeL
            rw [HLen.out, hOL]
          obtain ⟨A6, c6, rfl, _⟩ := HO.out.rd
          have HOa := Lib.hid (HO.out.below ((Below.refl _ _).alloc (Nat.le_refl _) (.cells #[.int .i64 20, .int .i64 (11 + (n : Int)), .int .i64 0, .int .i64 0, .int .u64 0] 43)))
          have HBa := Lib.hid (HBk.out.alloc HBk.out.size (.cells #[.int .i64 20, .int .i64 (11 + (n : Int)), .int .i64 0, .int .i64 0, .int .u64 0] 43))
          have hz3 := HBa.out.size
          have Ra : Hid (RdI (wr.alloc (.cells #[.int .i64 20, .int .i64 (11 + (n : Int)), .int .i64 0, .int .i64 0, .int .u64 0] 43)) (wr.heap.size + 1) (some ⟨wr.heap.size, 0, none⟩) 1 [⟨20, 11 + (n : Int), 0, 0, 0⟩]) := rdI_newAt wr ⟨20, 11 + (n : Int), 0, 0, 0⟩
          have hol := HOl.out
          clear hal hOL
          have tok1 : True := trivial
          by_cases h256 : 256 < OL.length + 1
          · have h256i : (256 : Int) < (OL.length : Int) + 1 := by omega
            have HE : Hid (joinL l = ([], 3)) := by
              show _ = _
              unfold joinL
              rw [HLen.out, if_neg hn0, if_neg hn4, if_neg (by rw [HF0.out]; decide), if_pos (by rw [HW.out, List.length_append]; exact h256)]
            go_wp2_with (first
              | (at_builtin
                 have _t := tok1
                 go_must (
                   refine wpList_app _ rfl (.tmp 69) (.tmp 74) 23 rfl w.heap.size 43 i0 _ 5 40 Try.underlying23 hi0 hz0 hz1 hz2 rfl (by omega) _ _ _ rfl HOa.out _ _ 1 _ _ rfl Ra.out (insCells_one _) ?_ ?_ ?_ ?_
                   · have := HOl.out; simp only [maxLen]; omega
                   · have := HOl.out; omega
                   · exact hz3
                   intro v5 w5 hown5 hg5 _
                   obtain ⟨A5, c5, hv5, _, _⟩ := Rd.of_own_cap hown5
                   subst hv5
                   have HO5 := Lib.hid hown5
                   have HB5 := Lib.hid (below_own HBa.out HOa.out hg5 (Nat.le_refl _) HBa.out.size)
                   clear hown5 hg5 _t tok1))
              | fail)
            go_ret2
            exact JoinPost.fail HE.out HB5.out
          · have h256i : ¬ ((256 : Int) < (OL.length : Int) + 1) := by omega
            have HE : Hid (joinL l = (OL ++ [⟨20, 11 + (n : Int), 0, 0, 0⟩], 0)) := by
              show _ = _
              unfold joinL
              rw [HLen.out, if_neg hn0, if_neg hn4, if_neg (by rw [HF0.out]; decide), if_neg (by rw [HW.out, List.length_append]; exact h256), HW.out]
            go_wp2_with (first
              | (at_builtin
                 have _t := tok1
                 go_must (
                   refine wpList_app _ rfl (.tmp 69) (.tmp 74) 23 rfl w.heap.size 43 i0 _ 5 40 Try.underlying23 hi0 hz0 hz1 hz2 rfl (by omega) _ _ _ rfl HOa.out _ _ 1 _ _ rfl Ra.out (insCells_one _) ?_ ?_ ?_ ?_
                   · have := HOl.out; simp only [maxLen]; omega
                   · have := HOl.out; omega
                   · exact hz3
                   intro v5 w5 hown5 hg5 _
                   obtain ⟨A5, c5, hv5, _, _⟩ := Rd.of_own_cap hown5
                   subst hv5
                   have HO5 := Lib.hid hown5
                   have HB5 := Lib.hid (below_own HBa.out HOa.out hg5 (Nat.le_refl _) HBa.out.size)
                   clear hown5 hg5 _t tok1))
              | fail)
            go_ret2
            refine ⟨.slice A5 (OL.length + 1) c5, by rw [HE.out]; rfl, ?_, HB5.out⟩
            rw [HE.out]
            rw [insCells_append, List.length_append]
            exact HO5.out
end Go.Proofs.Ytddaeaimimdonaa
namespace Go.Proofs.Ytddaeaimimdonaa
open Go.RowKit
set_option linter.unusedVariables false

/-- A part under way: so many of its arguments are put in. -/
def aCells (pA : Option Addr) (pn pc : Nat) (b0 b1 b2 b3 : PArg) : Nat → Array Value
  | 0 => #[.slice pA pn pc, .int .i64 0, .int .u64 0, .int .i64 0, .int .u64 0, .int .i64 0, .int .u64 0, .int .i64 0, .int .u64 0]
  | 1 => #[.slice pA pn pc, .int .i64 b0.kind, .int .u64 b0.val, .int .i64 0, .int .u64 0, .int .i64 0, .int .u64 0, .int .i64 0, .int .u64 0]
  | 2 => #[.slice pA pn pc, .int .i64 b0.kind, .int .u64 b0.val, .int .i64 b1.kind, .int .u64 b1.val, .int .i64 0, .int .u64 0, .int .i64 0, .int .u64 0]
  | 3 => #[.slice pA pn pc, .int .i64 b0.kind, .int .u64 b0.val, .int .i64 b1.kind, .int .u64 b1.val, .int .i64 b2.kind, .int .u64 b2.val, .int .i64 0, .int .u64 0]
  | _ => #[.slice pA pn pc, .int .i64 b0.kind, .int .u64 b0.val, .int .i64 b1.kind, .int .u64 b1.val, .int .i64 b2.kind, .int .u64 b2.val, .int .i64 b3.kind, .int .u64 b3.val]
theorem info_rpart : (Try.prog.info? 112).map (fun i => (i.zero, i.size, i.bytes)) = some (some (.agg #[.slice none 0 0, .int .i64 0, .int .u64 0, .int .i64 0, .int .u64 0, .int .i64 0, .int .u64 0, .int .i64 0, .int .u64 0]), 9, 88) := by kernel_rfl
def POut (w : World) (v : Value) (base n : Nat) (l : List Prt) : Prop := w.ownsRow base 112 9 v n (l.flatMap Prt.cells)
set_option maxRecDepth 100000 in
set_option maxHeartbeats 16000000 in
theorem las_any (l : List Prt) (A : Option Addr) (n c : Nat) (w : World) (hl : RdP w w.heap.size A n l) (hn : n ≤ 100) :
    Calls Try.prog 33 #[.slice A n c] w fun e w' => ∃ v, e = .returned v ∧ POut w' v w.heap.size n l ∧ Below w.heap.size w w' := by
  obtain ⟨i0, hi0, hz0, hz1, hz2⟩ := info_parts info_rpart
  have HL := Lib.hid hl
  have HLen := Lib.hid hl.len
  clear hl
  go_enter Try.func33, Try.ntmps33
  go_upto_region 2 with fail
  obtain ⟨X, hX⟩ : ∃ X, w.alloc (.cells #[] 112) = X := ⟨_, rfl⟩
  rw [hX]
  have HOX : Hid (POut X (.slice (some ⟨w.heap.size, 0, none⟩) 0 0) w.heap.size 0 (l.take 0)) := by
    show X.ownsRow w.heap.size 112 9 _ 0 []
    rw [← hX]; exact own_new w #[] _ (size := 9) (m := 0) rfl (by simp [maxLen]) (Nat.le_refl _)
  have HBX : Hid (Below w.heap.size w X) := by show Below _ _ _; rw [← hX]; exact (Below.refl _ _).alloc (Nat.le_refl _) _
  clear hX
  go_wp2
  go_loopw [12, 3, 5, 6, 7, 8] (fun i s3 _a _b _c _d wr => ∃ (k : Nat) (ov : Value), (k ≤ n ∧ i = .int .i64 k) ∧ ov = s3 ∧ Hid (POut wr ov w.heap.size k (l.take k)) ∧ Hid (Below w.heap.size w wr)) (fun i _ _ _ _ _ _ => n - (intOf i).toNat)
  case atStart => exact ⟨0, _, ⟨by omega, rfl⟩, rfl, HOX, HBX⟩
  case round =>
    clear HOX HBX
    obtain ⟨k, ov, ⟨hk, rfl⟩, rfl, HO, HB⟩ := hrel
    by_cases hlt : k < n
    · have hlti : (k : Int) < (n : Int) := by omega
      obtain ⟨b, o, pA, pn, pc, code, b0, b1, b2, b3, rfl, hbB, hlk, hin, c0, c1, c2, c3, c4, c5, c6, c7, c8⟩ := (HL.out.below HB.out).at_ hlt
      have HSn : Hid ((l.take (k + 1)).flatMap Prt.cells = (l.take k).flatMap Prt.cells ++ Prt.cells ⟨pA, pn, pc, code, [b0, b1, b2, b3]⟩) := by
        show _ = _
        rw [List.take_add_one, hlk, List.flatMap_append]; simp
      clear hlk hin
      go_upto_region 5 with fail
      obtain ⟨W1, hW1⟩ : ∃ W1, wr.alloc (.cells #[.slice pA pn pc, .int .i64 b0.kind, .int .u64 b0.val, .int .i64 b1.kind, .int .u64 b1.val, .int .i64 b2.kind, .int .u64 b2.val, .int .i64 b3.kind, .int .u64 b3.val] 80) = W1 := ⟨_, rfl⟩
      rw [hW1]
      have Z1 : Hid (W1.heap.size = wr.heap.size + 1) := by show _ = _; rw [← hW1]; simp
      have hP1 : Bk W1 wr.heap.size 80 #[.slice pA pn pc, .int .i64 b0.kind, .int .u64 b0.val, .int .i64 b1.kind, .int .u64 b1.val, .int .i64 b2.kind, .int .u64 b2.val, .int .i64 b3.kind, .int .u64 b3.val] := by rw [← hW1]; exact Bk.new _ _ _
      have hB1 : Below wr.heap.size wr W1 := by rw [← hW1]; exact (Below.refl _ _).alloc (Nat.le_refl _) _
      have y0 : W1.cell? ⟨wr.heap.size, 0, none⟩ = some (.slice pA pn pc) := (hP1.cell 0).trans rfl
      clear hW1 c0 c1 c2 c3 c4 c5 c6 c7 c8
      go_upto_region 6 with fail
      obtain ⟨W2, hW2⟩ : ∃ W2, W1.alloc (.cells (aCells pA pn pc b0 b1 b2 b3 0) 112) = W2 := ⟨_, rfl⟩
      have hX2 : Bk W2 W1.heap.size 112 (aCells pA pn pc b0 b1 b2 b3 0) := by rw [← hW2]; exact Bk.new _ _ _
      have hP2 : Bk W2 wr.heap.size 80 #[.slice pA pn pc, .int .i64 b0.kind, .int .u64 b0.val, .int .i64 b1.kind, .int .u64 b1.val, .int .i64 b2.kind, .int .u64 b2.val, .int .i64 b3.kind, .int .u64 b3.val] := by rw [← hW2]; exact hP1.alloc _
      have hB2 : Below wr.heap.size wr W2 := by rw [← hW2]; exact hB1.alloc hB1.size _
      obtain ⟨gx, hgx⟩ : ∃ gx, W1.heap.size = gx := ⟨_, rfl⟩
      replace hW2 : W1.alloc (.cells #[.slice pA pn pc, .int .i64 0, .int .u64 0, .int .i64 0, .int .u64 0, .int .i64 0, .int .u64 0, .int .i64 0, .int .u64 0] 112) = W2 := hW2
      rw [hW2]
      rw [hgx] at hX2 ⊢
      have z1 : gx = wr.heap.size + 1 := by rw [← hgx]; exact Z1.out
      have HX2 := Lib.hid hX2
      have HLo : Hid (∀ b, ov.ownBlock = some b → b < gx) := fun b hb => by have := (HO.out.lt b hb).2; omega
      have HO2 := Lib.hid (show POut W2 ov w.heap.size k (l.take k) from own_below HO.out hB2)
      have HB2 := Lib.hid (HB.out.trans (hB2.mono HB.out.size))
      have HGX : Hid (w.heap.size ≤ gx) := by show _ ≤ _; have := HB.out.size; omega
      have y0 : W2.cell? ⟨wr.heap.size, 0, none⟩ = some (.slice pA pn pc) := (hP2.cell 0).trans rfl
      have y1 : W2.cell? ⟨wr.heap.size, 1, none⟩ = some (.int .i64 b0.kind) := (hP2.cell 1).trans rfl
      have y2 : W2.cell? ⟨wr.heap.size, 2, none⟩ = some (.int .u64 b0.val) := (hP2.cell 2).trans rfl
      have y3 : W2.cell? ⟨wr.heap.size, 3, none⟩ = some (.int .i64 b1.kind) := (hP2.cell 3).trans rfl
      have y4 : W2.cell? ⟨wr.heap.size, 4, none⟩ = some (.int .u64 b1.val) := (hP2.cell 4).trans rfl
      have y5 : W2.cell? ⟨wr.heap.size, 5, none⟩ = some (.int .i64 b2.kind) := (hP2.cell 5).trans rfl
      have y6 : W2.cell? ⟨wr.heap.size, 6, none⟩ = some (.int .u64 b2.val) := (hP2.cell 6).trans rfl
      have y7 : W2.cell? ⟨wr.heap.size, 7, none⟩ = some (.int .i64 b3.kind) := (hP2.cell 7).trans rfl
      have y8 : W2.cell? ⟨wr.heap.size, 8, none⟩ = some (.int .u64 b3.val) := (hP2.cell 8).trans rfl
      have hx0 : ∀ w, (Instr.index 78 (.agg #[.int .i64 b0.kind, .int .u64 b0.val, .int .i64 b1.kind, .int .u64 b1.val, .int .i64 b2.kind, .int .u64 b2.val, .int .i64 b3.kind, .int .u64 b3.val]) (.int .i64 0)).run Try.prog w = .ok (.agg #[.int .i64 b0.kind, .int .u64 b0.val]) w := fun _ => by kernel_rfl
      have hx1 : ∀ w, (Instr.index 78 (.agg #[.int .i64 b0.kind, .int .u64 b0.val, .int .i64 b1.kind, .int .u64 b1.val, .int .i64 b2.kind, .int .u64 b2.val, .int .i64 b3.kind, .int .u64 b3.val]) (.int .i64 1)).run Try.prog w = .ok (.agg #[.int .i64 b1.kind, .int .u64 b1.val]) w := fun _ => by kernel_rfl
      have hx2 : ∀ w, (Instr.index 78 (.agg #[.int .i64 b0.kind, .int .u64 b0.val, .int .i64 b1.kind, .int .u64 b1.val, .int .i64 b2.kind, .int .u64 b2.val, .int .i64 b3.kind, .int .u64 b3.val]) (.int .i64 2)).run Try.prog w = .ok (.agg #[.int .i64 b2.kind, .int .u64 b2.val]) w := fun _ => by kernel_rfl
      have hx3 : ∀ w, (Instr.index 78 (.agg #[.int .i64 b0.kind, .int .u64 b0.val, .int .i64 b1.kind, .int .u64 b1.val, .int .i64 b2.kind, .int .u64 b2.val, .int .i64 b3.kind, .int .u64 b3.val]) (.int .i64 3)).run Try.prog w = .ok (.agg #[.int .i64 b3.kind, .int .u64 b3.val]) w := fun _ => by kernel_rfl
      clear hW2 hX2 hP2 hB2 hP1 hB1 hgx z1 HO HB
      go_wp2
      go_loopw [21, 7, 8] (fun i _a _b wq => ∃ q : Nat, (q ≤ 4 ∧ i = .int .i64 q) ∧ Hid (Bk wq gx 112 (aCells pA pn pc b0 b1 b2 b3 q)) ∧ Hid (W2.grownBy wq (some gx))) (fun i _ _ _ => 4 - (intOf i).toNat)
      case atStart => exact ⟨0, ⟨by omega, rfl⟩, HX2, World.grownBy.refl _ _⟩
      case round =>
        obtain ⟨q, ⟨hq, rfl⟩, HXq, HGq⟩ := hrel
        have hq5 : q = 0 ∨ q = 1 ∨ q = 2 ∨ q = 3 ∨ q = 4 := by omega
        clear hq
        have hgl := HXq.out.lt
        have hgne := Nat.ne_of_lt hgl
        have hgne2 := Nat.ne_of_gt hgl
        rcases hq5 with rfl | rfl | rfl | rfl | rfl
        · obtain ⟨V, hV⟩ : ∃ V, wr.alloc (.cells #[.int .i64 b0.kind, .int .u64 b0.val] 77) = V := ⟨_, rfl⟩
          have hXV : Bk V gx 112 (aCells pA pn pc b0 b1 b2 b3 0) := by rw [← hV]; exact HXq.out.alloc _
          have hAV : Bk V wr.heap.size 77 #[.int .i64 b0.kind, .int .u64 b0.val] := by rw [← hV]; exact Bk.new _ _ _
          have hGV : W2.grownBy V (some gx) := by rw [← hV]; exact HGq.out.trans (World.grownBy_alloc _ _ _)
          go_upto_region 9 with fail
          have HXV := Lib.hid hXV
          have HGV := Lib.hid hGV
          have a0 : V.cell? ⟨wr.heap.size, 0, none⟩ = some (.int .i64 b0.kind) := (hAV.cell 0).trans rfl
          have a1 : V.cell? ⟨wr.heap.size, 1, none⟩ = some (.int .u64 b0.val) := (hAV.cell 1).trans rfl
          have d0 := hXV.cell 1
          have d1 := hXV.cell 2
          have e0 := hXV.frozen 1
          have e1 := hXV.frozen 2
          simp only [aCells] at d0 d1
          have HXn : Hid (Bk ((V.setCell ⟨gx, 1, none⟩ (.int .i64 b0.kind)).setCell ⟨gx, 2, none⟩ (.int .u64 b0.val)) gx 112 (aCells pA pn pc b0 b1 b2 b3 1)) := by
            have h := (hXV.set_ 1 (.int .i64 b0.kind)).set_ 2 (.int .u64 b0.val)
            show Bk _ _ _ _
            simpa [aCells] using h
          have HGn := Lib.hid ((HGV.out.trans (grown_set V gx 1 (.int .i64 b0.kind))).trans (grown_set _ gx 2 (.int .u64 b0.val)))
          clear hV hXV hAV hGV
          go_wp2
          go_roundw
          case rel => exact ⟨1, ⟨by omega, by go_num⟩, HXn, HGn⟩
          case measure => simp [intOf]
        · obtain ⟨V, hV⟩ : ∃ V, wr.alloc (.cells #[.int .i64 b1.kind, .int .u64 b1.val] 77) = V := ⟨_, rfl⟩
          have hXV : Bk V gx 112 (aCells pA pn pc b0 b1 b2 b3 1) := by rw [← hV]; exact HXq.out.alloc _
          have hAV : Bk V wr.heap.size 77 #[.int .i64 b1.kind, .int .u64 b1.val] := by rw [← hV]; exact Bk.new _ _ _
          have hGV : W2.grownBy V (some gx) := by rw [← hV]; exact HGq.out.trans (World.grownBy_alloc _ _ _)
          go_upto_region 9 with fail
          have HXV := Lib.hid hXV
          have HGV := Lib.hid hGV
          have a0 : V.cell? ⟨wr.heap.size, 0, none⟩ = some (.int .i64 b1.kind) := (hAV.cell 0).trans rfl
          have a1 : V.cell? ⟨wr.heap.size, 1, none⟩ = some (.int .u64 b1.val) := (hAV.cell 1).trans rfl
          have d0 := hXV.cell 3
          have d1 := hXV.cell 4
          have e0 := hXV.frozen 3
          have e1 := hXV.frozen 4
          simp only [aCells] at d0 d1
          have HXn : Hid (Bk ((V.setCell ⟨gx, 3, none⟩ (.int .i64 b1.kind)).setCell ⟨gx, 4, none⟩ (.int .u64 b1.val)) gx 112 (aCells pA pn pc b0 b1 b2 b3 2)) := by
            have h := (hXV.set_ 3 (.int .i64 b1.kind)).set_ 4 (.int .u64 b1.val)
            show Bk _ _ _ _
            simpa [aCells] using h
          have HGn := Lib.hid ((HGV.out.trans (grown_set V gx 3 (.int .i64 b1.kind))).trans (grown_set _ gx 4 (.int .u64 b1.val)))
          clear hV hXV hAV hGV
          go_wp2
          go_roundw
          case rel => exact ⟨2, ⟨by omega, by go_num⟩, HXn, HGn⟩
          case measure => simp [intOf]
        · obtain ⟨V, hV⟩ : ∃ V, wr.alloc (.cells #[.int .i64 b2.kind, .int .u64 b2.val] 77) = V := ⟨_, rfl⟩
          have hXV : Bk V gx 112 (aCells pA pn pc b0 b1 b2 b3 2) := by rw [← hV]; exact HXq.out.alloc _
          have hAV : Bk V wr.heap.size 77 #[.int .i64 b2.kind, .int .u64 b2.val] := by rw [← hV]; exact Bk.new _ _ _
          have hGV : W2.grownBy V (some gx) := by rw [← hV]; exact HGq.out.trans (World.grownBy_alloc _ _ _)
          go_upto_region 9 with fail
          have HXV := Lib.hid hXV
          have HGV := Lib.hid hGV
          have a0 : V.cell? ⟨wr.heap.size, 0, none⟩ = some (.int .i64 b2.kind) := (hAV.cell 0).trans rfl
          have a1 : V.cell? ⟨wr.heap.size, 1, none⟩ = some (.int .u64 b2.val) := (hAV.cell 1).trans rfl
          have d0 := hXV.cell 5
          have d1 := hXV.cell 6
          have e0 := hXV.frozen 5
          have e1 := hXV.frozen 6
          simp only [aCells] at d0 d1
          have HXn : Hid (Bk ((V.setCell ⟨gx, 5, none⟩ (.int .i64 b2.kind)).setCell ⟨gx, 6, none⟩ (.int .u64 b2.val)) gx 112 (aCells pA pn pc b0 b1 b2 b3 3)) := by
            have h := (hXV.set_ 5 (.int .i64 b2.kind)).set_ 6 (.int .u64 b2.val)
            show Bk _ _ _ _
            simpa [aCells] using h
          have HGn := Lib.hid ((HGV.out.trans (grown_set V gx 5 (.int .i64 b2.kind))).trans (grown_set _ gx 6 (.int .u64 b2.val)))
          clear hV hXV hAV hGV
          go_wp2
          go_roundw
          case rel => exact ⟨3, ⟨by omega, by go_num⟩, HXn, HGn⟩
          case measure => simp [intOf]
        · obtain ⟨V, hV⟩ : ∃ V, wr.alloc (.cells #[.int .i64 b3.kind, .int .u64 b3.val] 77) = V := ⟨_, rfl⟩
          have hXV : Bk V gx 112 (aCells pA pn pc b0 b1 b2 b3 3) := by rw [← hV]; exact HXq.out.alloc _
          have hAV : Bk V wr.heap.size 77 #[.int .i64 b3.kind, .int .u64 b3.val] := by rw [← hV]; exact Bk.new _ _ _
          have hGV : W2.grownBy V (some gx) := by rw [← hV]; exact HGq.out.trans (World.grownBy_alloc _ _ _)
          go_upto_region 9 with fail
          have HXV := Lib.hid hXV
          have HGV := Lib.hid hGV
          have a0 : V.cell? ⟨wr.heap.size, 0, none⟩ = some (.int .i64 b3.kind) := (hAV.cell 0).trans rfl
          have a1 : V.cell? ⟨wr.heap.size, 1, none⟩ = some (.int .u64 b3.val) := (hAV.cell 1).trans rfl
          have d0 := hXV.cell 7
          have d1 := hXV.cell 8
          have e0 := hXV.frozen 7
          have e1 := hXV.frozen 8
          simp only [aCells] at d0 d1
          have HXn : Hid (Bk ((V.setCell ⟨gx, 7, none⟩ (.int .i64 b3.kind)).setCell ⟨gx, 8, none⟩ (.int .u64 b3.val)) gx 112 (aCells pA pn pc b0 b1 b2 b3 4)) := by
            have h := (hXV.set_ 7 (.int .i64 b3.kind)).set_ 8 (.int .u64 b3.val)
            show Bk _ _ _ _
            simpa [aCells] using h
          have HGn := Lib.hid ((HGV.out.trans (grown_set V gx 7 (.int .i64 b3.kind))).trans (grown_set _ gx 8 (.int .u64 b3.val)))
          clear hV hXV hAV hGV
          go_wp2
          go_roundw
          case rel => exact ⟨4, ⟨by omega, by go_num⟩, HXn, HGn⟩
          case measure => simp [intOf]
        · have HX4 : Hid (Bk wr gx 112 #[.slice pA pn pc, .int .i64 b0.kind, .int .u64 b0.val, .int .i64 b1.kind, .int .u64 b1.val, .int .i64 b2.kind, .int .u64 b2.val, .int .i64 b3.kind, .int .u64 b3.val]) := HXq.out
          have HO4 := Lib.hid (show POut wr ov w.heap.size k (l.take k) from HO2.out.kept HGq.out (by
            cases hv : ov.ownBlock with
            | none => exact .inl rfl
            | some b => exact .inr (by intro e; have := HLo.out b hv; cases e; omega)))
          have HB4 := Lib.hid (HB2.out.grown HGq.out HB2.out.size (fun g e => by cases e; exact HGX.out))
          have y0 : wr.cell? ⟨gx, 0, none⟩ = some (.slice pA pn pc) := (HX4.out.cell 0).trans rfl
          have y1 : wr.cell? ⟨gx, 1, none⟩ = some (.int .i64 b0.kind) := (HX4.out.cell 1).trans rfl
          have y2 : wr.cell? ⟨gx, 2, none⟩ = some (.int .u64 b0.val) := (HX4.out.cell 2).trans rfl
          have y3 : wr.cell? ⟨gx, 3, none⟩ = some (.int .i64 b1.kind) := (HX4.out.cell 3).trans rfl
          have y4 : wr.cell? ⟨gx, 4, none⟩ = some (.int .u64 b1.val) := (HX4.out.cell 4).trans rfl
          have y5 : wr.cell? ⟨gx, 5, none⟩ = some (.int .i64 b2.kind) := (HX4.out.cell 5).trans rfl
          have y6 : wr.cell? ⟨gx, 6, none⟩ = some (.int .u64 b2.val) := (HX4.out.cell 6).trans rfl
          have y7 : wr.cell? ⟨gx, 7, none⟩ = some (.int .i64 b3.kind) := (HX4.out.cell 7).trans rfl
          have y8 : wr.cell? ⟨gx, 8, none⟩ = some (.int .u64 b3.val) := (HX4.out.cell 8).trans rfl
          have HOa := Lib.hid (show POut (wr.alloc (.cells #[.slice pA pn pc, .int .i64 b0.kind, .int .u64 b0.val, .int .i64 b1.kind, .int .u64 b1.val, .int .i64 b2.kind, .int .u64 b2.val, .int .i64 b3.kind, .int .u64 b3.val] 112)) ov w.heap.size k (l.take k) from own_below HO4.out ((Below.refl _ _).alloc (Nat.le_refl _) _))
          have HBa := Lib.hid (HB4.out.alloc HB4.out.size (.cells #[.slice pA pn pc, .int .i64 b0.kind, .int .u64 b0.val, .int .i64 b1.kind, .int .u64 b1.val, .int .i64 b2.kind, .int .u64 b2.val, .int .i64 b3.kind, .int .u64 b3.val] 112))
          have hz3 := HBa.out.size
          have Ra : Hid (Rd (wr.alloc (.cells #[.slice pA pn pc, .int .i64 b0.kind, .int .u64 b0.val, .int .i64 b1.kind, .int .u64 b1.val, .int .i64 b2.kind, .int .u64 b2.val, .int .i64 b3.kind, .int .u64 b3.val] 112)) (wr.heap.size + 1) 9 (some ⟨wr.heap.size, 0, none⟩) 1 (Prt.cells ⟨pA, pn, pc, code, [b0, b1, b2, b3]⟩)) := Rd.new wr _ _ (size := 9) (m := 1) rfl (by simp [maxLen])
          have tok1 : True := trivial
          go_wp2_with (first
            | (at_builtin
               have _t := tok1
               go_must (
                 refine wpList_app _ rfl (.tmp 30) (.tmp 32) 72 rfl w.heap.size 112 i0 _ 9 88 Try.underlying72 hi0 hz0 hz1 hz2 rfl (by omega) _ _ _ rfl HOa.out _ _ 1 _ _ rfl Ra.out ?_ ?_ ?_ ?_ ?_
                 · intro u hu; simp [Prt.cells, PArg.cells] at hu; rcases hu with rfl | rfl | rfl | rfl | rfl | rfl | rfl | rfl | rfl <;> rfl
                 · simp only [maxLen]; omega
                 · omega
                 · exact hz3
                 intro v5 w5 hown5 hg5 _
                 have HO5 := Lib.hid hown5
                 have HB5 := Lib.hid (below_own HBa.out HOa.out hg5 (Nat.le_refl _) HBa.out.size)
                 clear hown5 hg5 _t tok1))
            | fail)
          go_roundw
          case rel => exact ⟨k + 1, _, ⟨by omega, by go_num⟩, rfl, (by show POut _ _ _ _ _; unfold POut; rw [HSn.out]; exact HO5.out), HB5⟩
          case measure => simp [intOf]; omega
    · obtain rfl : n = k := by omega
      have HT : Hid (l.take n = l) := List.take_of_length_le (by rw [HLen.out]; exact Nat.le_refl _)
      go_wp2
      go_ret
      exact ⟨_, rfl, by rw [← HT.out]; exact HO.out, HB.out⟩
end Go.Proofs.Ytddaeaimimdonaa
