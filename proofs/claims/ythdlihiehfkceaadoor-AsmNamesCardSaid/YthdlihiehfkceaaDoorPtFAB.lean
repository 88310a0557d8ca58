/-
  Texts of one proof, joined (wip/gen/pack.py): LawA3.
-/
import Derived.Test.YthdlihiehfkceaaDoorPtFAA
import Derived.Deep.RegionHeld3
namespace Go.Proofs.YthdlihiehfkceaaDoor
open Go.RowKit
set_option linter.unusedVariables false

theorem and255n (x : Int) : 0 ≤ bits .and .i64 x 255 ∧ bits .and .i64 x 255 ≤ 255 := by
  show 0 ≤ IntKind.i64.wrap ((BitVec.ofInt 64 x &&& BitVec.ofInt 64 255).toNat : Int) ∧ IntKind.i64.wrap ((BitVec.ofInt 64 x &&& BitVec.ofInt 64 255).toNat : Int) ≤ 255
  have h : (BitVec.ofInt 64 x &&& BitVec.ofInt 64 255).toNat ≤ 255 := by
    rw [BitVec.toNat_and]
    exact Nat.le_trans Nat.and_le_right (by decide)
  rw [IntKind.wrap_i64]
  omega
theorem belowCell {W2 w : World} {b o : Nat} {v : Value} (h : Below W2.heap.size W2 w) (hc : W2.cell? ⟨b, o, none⟩ = some v) (hb : b < W2.heap.size) : w.cell? ⟨b, o, none⟩ = some v := (h.cell (p := ⟨b, o, none⟩) hb).trans hc
theorem lnB_17 (a b ra rb rc : Nat) (m : Int) : lnB (nameP a b) ⟨17, ra, rb, rc, m⟩ = [103, 111, 32] ++ (nameP a b m.toNat).data.toList ++ [10] := by
  simp [lnB, goesP, printP, lineN, formP, tokP, wordP, printGo, tokText]
theorem lnB_18 (a b ra rb rc : Nat) (m : Int) : lnB (nameP a b) ⟨18, ra, rb, rc, m⟩ = [122, 101, 114, 111, 32, 114] ++ (digS ra).data.toList ++ [32] ++ (nameP a b m.toNat).data.toList ++ [10] := by
  simp [lnB, goesP, printP, lineN, formP, tokP, wordP, printGo, tokText, digS_reg]
theorem lnB_19 (a b ra rb rc : Nat) (m : Int) : lnB (nameP a b) ⟨19, ra, rb, rc, m⟩ = [98, 97, 99, 107, 32, 114] ++ (digS ra).data.toList ++ [32] ++ (nameP a b m.toNat).data.toList ++ [10] := by
  simp [lnB, goesP, printP, lineN, formP, tokP, wordP, printGo, tokText, digS_reg]
theorem fits_goes {n : Nat} : ∀ {l : List Ins} {q : Nat}, fitsGo n l q = true → ∀ (k : Nat) (i : Ins), l[k]? = some i → goesP i.op = true → i.imm ≤ (n : Int)
  | [], q, _, k, i, hi, _ => by simp at hi
  | j :: r, q, h, k, i, hi, hg => by
    rw [fitsGo, Bool.and_eq_true] at h
    cases k with
    | zero =>
      simp at hi
      subst hi
      have hj := h.1
      unfold jumpOk at hj
      rw [hg] at hj
      simp only [Bool.not_true, Bool.false_or, Bool.and_eq_true, decide_eq_true_eq] at hj
      exact hj.1
    | succ k => exact fits_goes h.2 k i (by simpa using hi) hg

set_option maxRecDepth 100000 in
set_option maxHeartbeats 16000000 in
theorem names4_walk (l : List Ins) (A : Option Addr) (n c : Nat) (za zb zt : Int) (W : World) (htab : PowTab W) (rd : RdI W W.heap.size A n l) (hok : ∀ t ∈ l, t.Ok) (hnc : n ≤ c)
    (hza0 : 0 ≤ za ∧ za ≤ 255) (hzb0 : 0 ≤ zb ∧ zb ≤ 255) (hzt : -9223372036854775808 ≤ zt ∧ zt ≤ 9223372036854775807) :
    Calls Tryd.prog 5 #[.slice A n c, .int .u8 za, .int .u8 zb, .int .i64 zt] W fun e w' => e = .returned (.bool true) ∧ Below W.heap.size W w' := by
  have hlen := rd.insLen
  obtain ⟨a, rfl⟩ : ∃ a : Nat, za = (a : Int) := ⟨za.toNat, by omega⟩
  obtain ⟨b, rfl⟩ : ∃ b : Nat, zb = (b : Int) := ⟨zb.toNat, by omega⟩
  have ha : a ≤ 255 := by omega
  have hb : b ≤ 255 := by omega
  have HR := Lib.hid rd
  have HT := Lib.hid htab
  have HOk := Lib.hid hok
  have HLen := Lib.hid hlen
  clear rd htab hok hlen hza0 hzb0
  go_enter Tryd.func5, Tryd.ntmps5
  have HBx : Hid (Below W.heap.size W ((W.alloc (.cells #[.int .u8 (a : Int)] 5)).alloc (.cells #[.int .u8 (b : Int)] 5))) := ((Below.refl _ _).alloc (Nat.le_refl _) _).alloc (by simp) _
  have HXa : Hid (((W.alloc (.cells #[.int .u8 (a : Int)] 5)).alloc (.cells #[.int .u8 (b : Int)] 5)).cell? ⟨W.heap.size, 0, none⟩ = some (.int .u8 (a : Int))) := ((Bk.new W _ _).alloc _).cell 0
  have HXb : Hid (((W.alloc (.cells #[.int .u8 (a : Int)] 5)).alloc (.cells #[.int .u8 (b : Int)] 5)).cell? ⟨W.heap.size + 1, 0, none⟩ = some (.int .u8 (b : Int))) := (a_bk_new2 W _ _ _).cell 0
  go_wp2_with fail
  refine (alive4_any _ (HT.out.below HBx.out)).mono ?_
  rintro e W2 ⟨rfl, hb1⟩
  have HBW := Lib.hid (HBx.out.trans (hb1.mono HBx.out.size))
  have CA : Hid (W2.cell? ⟨W.heap.size, 0, none⟩ = some (.int .u8 (a : Int))) := (hb1.cell (p := ⟨W.heap.size, 0, none⟩) (World.block_lt_of_cell? _ _ HXa.out)).trans HXa.out
  have CB : Hid (W2.cell? ⟨W.heap.size + 1, 0, none⟩ = some (.int .u8 (b : Int))) := (hb1.cell (p := ⟨W.heap.size + 1, 0, none⟩) (World.block_lt_of_cell? _ _ HXb.out)).trans HXb.out
  have hza : W.heap.size < W2.heap.size := World.block_lt_of_cell? _ _ CA.out
  have hzb : W.heap.size + 1 < W2.heap.size := World.block_lt_of_cell? _ _ CB.out
  have HR2 := Lib.hid ((HR.out.below HBW.out).more HBW.out.size)
  have HT2 := Lib.hid (HT.out.below HBW.out)
  clear hb1 HBx HXa HXb
  by_cases h40 : 40 < n
  · have g4 : (40 : Int) < (n : Int) := by omega
    clear h40
    go_wp2
    go_ret
    exact ⟨rfl, HBW.out⟩
  have g4 : ¬ (40 : Int) < (n : Int) := by omega
  have hn1 : n ≤ 100000 := by omega
  have hn40 : n ≤ 40 := by omega
  have hft := rfits_any l A n c W2 HR2.out hn1 HOk.out
  clear h40
  cases hfi : fitsP l
  · rw [hfi] at hft
    go_wp2_with (
      go_at_call 13
      with_reducible refine hft.mono ?_
      rintro e w2 ⟨rfl, hb2⟩
      have HB2 := Lib.hid (HBW.out.trans (hb2.mono HBW.out.size))
      clear hb2)
    go_ret
    exact ⟨rfl, HB2.out⟩
  rw [hfi] at hft
  by_cases h0 : n = 0
  · subst h0
    go_wp2_with (
      go_at_call 13
      with_reducible refine hft.mono ?_
      rintro e w2 ⟨rfl, hb2⟩
      have HB2 := Lib.hid (HBW.out.trans (hb2.mono HBW.out.size))
      clear hb2)
    go_ret
    exact ⟨rfl, HB2.out⟩
  have g5 : ¬ (n : Int) = 0 := by omega
  have g6 : ((n : Int) == 0) = false := beq_eq_false_iff_ne.2 g5
  clear h0
  obtain ⟨t0, t1⟩ := and255n zt
  obtain ⟨tt, htt⟩ : ∃ tt, bits .and .i64 zt 255 = tt := ⟨_, rfl⟩
  rw [htt] at t0 t1
  obtain ⟨t, ht, htn⟩ : ∃ t : Nat, tt.tmod ((n : Int) + 1) = (t : Int) ∧ t ≤ n := by
    have h1 : 0 ≤ tt.tmod ((n : Int) + 1) := Int.tmod_nonneg _ t0
    have h2 : tt.tmod ((n : Int) + 1) < (n : Int) + 1 := Int.tmod_lt_of_pos _ (by omega)
    exact ⟨(tt.tmod ((n : Int) + 1)).toNat, by omega, by omega⟩
  have hmf : ∀ (fn : Fn) (first cap : Array Value) (w : World), (Instr.makeFunc fn first cap).run Tryd.prog w = .ok (.func fn first cap) w := fun _ _ _ _ => rfl
  obtain ⟨htx, aa, hAs⟩ := asm_tx (nameP_ok a b) t (code := l) (by rw [HLen.out]; exact hn40) hfi (fun i hi => (HOk.out i hi).imm)
  have HFg : Hid (∀ (k : Nat) (i : Ins), l[k]? = some i → goesP i.op = true → i.imm ≤ (n : Int)) := by
    intro k i hi hg
    have h := hfi
    unfold fitsP at h
    simp only [Bool.and_eq_true] at h
    rw [HLen.out] at h
    exact fits_goes h.2 k i hi hg
  have HPl : Hid (∀ i ∈ l, plainB i.op i.a i.b i.c i.imm = true) := (fits_some hfi).2.1
  obtain ⟨TT, hTT⟩ : ∃ TT, txB (nameP a b) t l 0 = TT := ⟨_, rfl⟩
  rw [hTT] at hAs htx
  have HAs := Lib.hid hAs
  have HTl := Lib.hid htx
  have HT0 := Lib.hid hTT
  clear hAs htx hTT hfi
  go_wp2_with (
    go_at_call 13
    with_reducible refine hft.mono ?_
    rintro e w3 ⟨rfl, hb3⟩
    have HB3 := Lib.hid hb3
    clear hb3)
  clear hft ht htt
  go_loopw [10, 11] (fun sv i wr => ∃ (k : Nat) (acc : List UInt8), (k ≤ n ∧ i = .int .i64 k ∧ sv = .string ⟨acc.toArray⟩) ∧ Hid (acc ++ txB (nameP a b) t (l.drop k) k = TT) ∧ Hid (Below W2.heap.size W2 wr)) (fun _ i _ => n + 1 - (intOf i).toNat)
  case atStart => exact ⟨0, [], ⟨by omega, rfl, rfl⟩, HT0.out, HB3.out⟩
  case round =>
    obtain ⟨k, acc, ⟨hk, rfl, rfl⟩, HA2, HB⟩ := hrel
    have hki : (k : Int) ≤ (n : Int) := by omega
    have hal : acc.length ≤ 30000 := by have h := congrArg List.length HA2.out; rw [List.length_append] at h; have := HTl.out; omega
    have hTl := HTl.out
    obtain ⟨NK, hNk⟩ : ∃ NK, nameP a b k = NK := ⟨_, rfl⟩
    have hNs : NK.size = 5 := by rw [← hNk]; rfl
    by_cases hat : k = t
    · subst hat
      have hte : ((k : Int) == (k : Int)) = true := beq_self_eq_true _
      obtain ⟨acc1, hac1⟩ : ∃ acc1 : List UInt8, acc ++ hdB (nameP a b) k k = acc1 := ⟨_, rfl⟩
      have HAc := Lib.hid hac1
      have hal1 : acc1.length ≤ 30000 := by
        have h := HA2.out
        have h2 := congrArg List.length h
        rw [← hac1]
        cases hd : l.drop k with
        | nil => rw [hd, txB] at h2; omega
        | cons i r => rw [hd, txB] at h2; simp only [List.length_append] at h2 ⊢; omega
      have HTx : Hid ((⟨acc.toArray⟩ ++ (NK ++ ⟨#[58, 10]⟩)) ++ ⟨#[110, 111, 98, 111, 100, 121, 46, 104, 101, 114, 101, 58, 10]⟩ = ⟨acc1.toArray⟩) := by
        show _ = _
        rw [← hac1]
        unfold hdB; rw [if_pos rfl, hNk]
        refine ByteArray.ext (Array.toList_inj.1 ?_)
        simp [ByteArray.data_append, nobodyS]
      clear hac1
      have HNk := Lib.hid hNk
      go_upto_region 14 with (
        go_at_call 16
        refine (nmk_any a b k ha hb (by omega) _ _ wr (belowCell HB.out CA.out hza) (belowCell HB.out CB.out hzb)).mono ?_
        rintro e w4 ⟨rfl, hb4⟩
        rw [HNk.out]
        have HB4 := Lib.hid (HB.out.trans (hb4.mono HB.out.size))
        clear hb4)
      rw [HTx.out]

      by_cases hlt : k < n
      · have hne : ((k : Int) == (n : Int)) = false := beq_eq_false_iff_ne.2 (by omega)
        have hne2 : ¬ (k : Int) = (n : Int) := by omega
        have hlti : (k : Int) < (n : Int) := by omega
        obtain ⟨bq, o, ⟨oo, oa, ob, oc, om⟩, rfl, hbB, hik, c0, c1, c2, c3, c4⟩ := (HR.out.below (HBW.out.trans (HB4.out.mono HBW.out.size))).insAt hlt
        have hpi := HPl.out _ (List.mem_of_getElem? hik)
        have hom := (HOk.out _ (List.mem_of_getElem? hik)).imm
        simp only at hpi hom
        obtain ⟨q0, q1, q2, q3⟩ := plain_facts hpi
        obtain ⟨ra, rfl⟩ : ∃ ra : Nat, oa = (ra : Int) := ⟨oa.toNat, by omega⟩
        obtain ⟨rb, rfl⟩ : ∃ rb : Nat, ob = (rb : Int) := ⟨ob.toNat, by omega⟩
        obtain ⟨rc, rfl⟩ : ∃ rc : Nat, oc = (rc : Int) := ⟨oc.toNat, by omega⟩
        have HPi : Hid (plainB oo ra rb rc om = true) := hpi
        have HKI : Hid (Ins.Ok ⟨oo, ra, rb, rc, om⟩) := HOk.out _ (List.mem_of_getElem? hik)
        have HGo : Hid (goesP oo = true → om ≤ (n : Int)) := HFg.out k ⟨oo, ra, rb, rc, om⟩ hik
        have hdr : l.drop k = ⟨oo, ra, rb, rc, om⟩ :: l.drop (k + 1) := by
          have hkl2 : k < l.length := by rw [HLen.out]; exact hlt
          rw [List.drop_eq_getElem_cons hkl2]; rw [List.getElem?_eq_getElem hkl2] at hik; injection hik with hik; rw [hik]
        have HA3 : Hid ((acc1 ++ lnB (nameP a b) ⟨oo, ra, rb, rc, om⟩) ++ txB (nameP a b) k (l.drop (k + 1)) (k + 1) = TT) := by
          have h := HA2.out
          rw [hdr, txB] at h
          show _ = _
          rw [← h, ← HAc.out]
          simp only [List.append_assoc]
        clear hdr hik hpi
        go_upto_region 16 with fail
        obtain ⟨W5, hW5⟩ : ∃ W5, w4.alloc (.cells #[.int .i64 oo, .int .i64 (ra : Int), .int .i64 (rb : Int), .int .i64 (rc : Int), .int .u64 om] 35) = W5 := ⟨_, rfl⟩
        rw [hW5]
        have HI5 : Hid (Bk W5 w4.heap.size 35 #[.int .i64 oo, .int .i64 (ra : Int), .int .i64 (rb : Int), .int .i64 (rc : Int), .int .u64 om]) := by show Bk _ _ _ _; rw [← hW5]; exact Bk.new _ _ _
        have HB5 : Hid (Below W2.heap.size W2 W5) := by show Below _ _ _; rw [← hW5]; exact HB4.out.alloc HB4.out.size _
        clear hW5 c0 c1 c2 c3 c4
        have j0 : W5.cell? ⟨w4.heap.size, 0, none⟩ = some (.int .i64 oo) := HI5.out.cell 0
        have j1 : W5.cell? ⟨w4.heap.size, 1, none⟩ = some (.int .i64 (ra : Int)) := HI5.out.cell 1
        have j2 : W5.cell? ⟨w4.heap.size, 2, none⟩ = some (.int .i64 (rb : Int)) := HI5.out.cell 2
        have j3 : W5.cell? ⟨w4.heap.size, 3, none⟩ = some (.int .i64 (rc : Int)) := HI5.out.cell 3
        have j4 : W5.cell? ⟨w4.heap.size, 4, none⟩ = some (.int .u64 om) := HI5.out.cell 4
        by_cases h17 : oo = 17
        · subst h17
          have HL1 := Lib.hid (lnB_17 a b ra rb rc om)
          obtain ⟨mm, rfl⟩ : ∃ mm : Nat, om = (mm : Int) := ⟨om.toNat, by omega⟩
          have hmm : mm ≤ 40 := by have := HGo.out rfl; omega
          obtain ⟨NM, hNM⟩ : ∃ NM, nameP a b mm = NM := ⟨_, rfl⟩
          have hNMs : NM.size = 5 := by rw [← hNM]; rfl
          have HNM := Lib.hid hNM
          obtain ⟨DG, hDG⟩ : ∃ DG, digS ra = DG := ⟨_, rfl⟩
          have hDGs : DG.size ≤ 2 := by rw [← hDG]; exact digS_le ra
          have HDG := Lib.hid hDG
          clear hNM hDG

          go_wp2_with (
            go_at_call 16
            refine (nmk_any a b mm ha hb (by omega) _ _ W5 (belowCell HB5.out CA.out hza) (belowCell HB5.out CB.out hzb)).mono ?_
            rintro e w6 ⟨rfl, hb6⟩
            rw [HNM.out]
            have HB6 := Lib.hid (HB5.out.trans (hb6.mono HB5.out.size))
            clear hb6)
          go_roundw
          case rel =>
            refine ⟨k + 1, acc1 ++ lnB (nameP a b) ⟨17, ra, rb, rc, (mm : Int)⟩, ⟨by omega, by go_num, ?_⟩, HA3.out, HB6.out⟩
            rw [HL1.out, Int.toNat_natCast, HNM.out]
            refine congrArg Value.string (ByteArray.ext (Array.toList_inj.1 ?_))
            simp [ByteArray.data_append]
          case measure => simp [intOf]; omega
        by_cases h18 : oo = 18
        · subst h18
          have HL1 := Lib.hid (lnB_18 a b ra rb rc om)
          obtain ⟨mm, rfl⟩ : ∃ mm : Nat, om = (mm : Int) := ⟨om.toNat, by omega⟩
          have hmm : mm ≤ 40 := by have := HGo.out rfl; omega
          obtain ⟨NM, hNM⟩ : ∃ NM, nameP a b mm = NM := ⟨_, rfl⟩
          have hNMs : NM.size = 5 := by rw [← hNM]; rfl
          have HNM := Lib.hid hNM
          obtain ⟨DG, hDG⟩ : ∃ DG, digS ra = DG := ⟨_, rfl⟩
          have hDGs : DG.size ≤ 2 := by rw [← hDG]; exact digS_le ra
          have HDG := Lib.hid hDG
          clear hNM hDG

          obtain ⟨S1, hS1⟩ : ∃ S1, (⟨#[122, 101, 114, 111, 32, 114]⟩ : ByteArray) ++ DG = S1 := ⟨_, rfl⟩
          obtain ⟨S2, hS2⟩ : ∃ S2, S1 ++ (⟨#[32]⟩ : ByteArray) = S2 := ⟨_, rfl⟩
          obtain ⟨S3, hS3⟩ : ∃ S3, S2 ++ NM = S3 := ⟨_, rfl⟩
          obtain ⟨S4, hS4⟩ : ∃ S4, S3 ++ (⟨#[10]⟩ : ByteArray) = S4 := ⟨_, rfl⟩
          obtain ⟨S5, hS5⟩ : ∃ S5, (⟨acc1.toArray⟩ : ByteArray) ++ S4 = S5 := ⟨_, rfl⟩
          have z1 : S1.size ≤ 8 := by rw [← hS1, ByteArray.size_append]; show 6 + _ ≤ 8; omega
          have z2 : S2.size ≤ 9 := by rw [← hS2, ByteArray.size_append]; show _ + 1 ≤ 9; omega
          have z3 : S3.size ≤ 14 := by rw [← hS3, ByteArray.size_append]; omega
          have z4 : S4.size ≤ 15 := by rw [← hS4, ByteArray.size_append]; show _ + 1 ≤ 15; omega
          have hc1 : ∀ w, (Op.stringOp .add (⟨#[122, 101, 114, 111, 32, 114]⟩ : ByteArray) DG).run Tryd.prog w = .ok (.string S1) w := fun w => by rw [← hS1]; exact run_string_add_sum w _ _ (by show 6 + _ ≤ _; omega)
          have hc2 : ∀ w, (Op.stringOp .add S1 (⟨#[32]⟩ : ByteArray)).run Tryd.prog w = .ok (.string S2) w := fun w => by rw [← hS2]; exact run_string_add_sum w _ _ (by show _ + 1 ≤ _; omega)
          have hc3 : ∀ w, (Op.stringOp .add S2 NM).run Tryd.prog w = .ok (.string S3) w := fun w => by rw [← hS3]; exact run_string_add_sum w _ _ (by omega)
          have hc4 : ∀ w, (Op.stringOp .add S3 (⟨#[10]⟩ : ByteArray)).run Tryd.prog w = .ok (.string S4) w := fun w => by rw [← hS4]; exact run_string_add_sum w _ _ (by show _ + 1 ≤ _; omega)
          have hc5 : ∀ w, (Op.stringOp .add (⟨acc1.toArray⟩ : ByteArray) S4).run Tryd.prog w = .ok (.string S5) w := fun w => by rw [← hS5]; exact run_string_add_sum w _ _ (by show acc1.toArray.size + _ ≤ _; rw [List.size_toArray]; omega)
          have HS : Hid (S5 = (⟨acc1.toArray⟩ : ByteArray) ++ ((((⟨#[122, 101, 114, 111, 32, 114]⟩ : ByteArray) ++ DG) ++ (⟨#[32]⟩ : ByteArray) ++ NM) ++ (⟨#[10]⟩ : ByteArray))) := by show _ = _; rw [hS1, hS2, hS3, hS4, hS5]
          clear hS1 hS2 hS3 hS4 hS5 z1 z2 z3 z4
          have hwm : IntKind.i64.wrap (mm : Int) = (mm : Int) := by rw [IntKind.wrap_i64]; omega
          go_upto_region 21 with fail
          have HBd := Lib.hid (HB5.out.drew)
          have hzd := HBd.out.size
          have d1 : W5.drew.cell? ⟨w4.heap.size, 1, none⟩ = some (.int .i64 (ra : Int)) := j1
          have d4 : W5.drew.cell? ⟨w4.heap.size, 4, none⟩ = some (.int .u64 (mm : Int)) := j4
          go_region_held3 (fun w' => w'.cell? ⟨w4.heap.size, 1, none⟩ = some (.int .i64 (ra : Int)) ∧ w'.cell? ⟨w4.heap.size, 4, none⟩ = some (.int .u64 (mm : Int)))
            (first | exact ⟨d1, d4⟩ | exact ⟨j1, j4⟩ | go_keep)
            (first
              | (go_at_call 17
                 refine (ldig_any ra (by omega) _).mono ?_
                 rintro e wn ⟨rfl, hbn⟩
                 rw [HDG.out]
                 have HBd := Lib.hid (HBd.out.trans (hbn.mono hzd))
                 have hzd := HBd.out.size
                 have d1 := (hbn.cell (p := ⟨w4.heap.size, 1, none⟩) (World.block_lt_of_cell? _ _ d1)).trans d1
                 have d4 := (hbn.cell (p := ⟨w4.heap.size, 4, none⟩) (World.block_lt_of_cell? _ _ d4)).trans d4
                 clear hbn)
              | (go_at_call 16
                 refine (nmk_any a b mm ha hb (by omega) _ _ _ (belowCell HBd.out CA.out hza) (belowCell HBd.out CB.out hzb)).mono ?_
                 rintro e wn ⟨rfl, hbn⟩
                 rw [HNM.out]
                 have HBd := Lib.hid (HBd.out.trans (hbn.mono hzd))
                 have hzd := HBd.out.size
                 have d1 := (hbn.cell (p := ⟨w4.heap.size, 1, none⟩) (World.block_lt_of_cell? _ _ d1)).trans d1
                 have d4 := (hbn.cell (p := ⟨w4.heap.size, 4, none⟩) (World.block_lt_of_cell? _ _ d4)).trans d4
                 clear hbn))
          all_goals
            go_wp2
            go_roundw
            case rel =>
              refine ⟨k + 1, acc1 ++ lnB (nameP a b) ⟨18, ra, rb, rc, (mm : Int)⟩, ⟨by omega, by go_num, ?_⟩, HA3.out, HBd.out⟩
              rw [HL1.out, Int.toNat_natCast, HNM.out, HDG.out, HS.out]
              refine congrArg Value.string (ByteArray.ext (Array.toList_inj.1 ?_))
              simp [ByteArray.data_append]
            case measure => simp [intOf]; omega
        by_cases h19 : oo = 19
        · subst h19
          have HL1 := Lib.hid (lnB_19 a b ra rb rc om)
          obtain ⟨mm, rfl⟩ : ∃ mm : Nat, om = (mm : Int) := ⟨om.toNat, by omega⟩
          have hmm : mm ≤ 40 := by have := HGo.out rfl; omega
          obtain ⟨NM, hNM⟩ : ∃ NM, nameP a b mm = NM := ⟨_, rfl⟩
          have hNMs : NM.size = 5 := by rw [← hNM]; rfl
          have HNM := Lib.hid hNM
          obtain ⟨DG, hDG⟩ : ∃ DG, digS ra = DG := ⟨_, rfl⟩
          have hDGs : DG.size ≤ 2 := by rw [← hDG]; exact digS_le ra
          have HDG := Lib.hid hDG
          clear hNM hDG

          obtain ⟨S1, hS1⟩ : ∃ S1, (⟨#[98, 97, 99, 107, 32, 114]⟩ : ByteArray) ++ DG = S1 := ⟨_, rfl⟩
          obtain ⟨S2, hS2⟩ : ∃ S2, S1 ++ (⟨#[32]⟩ : ByteArray) = S2 := ⟨_, rfl⟩
          obtain ⟨S3, hS3⟩ : ∃ S3, S2 ++ NM = S3 := ⟨_, rfl⟩
          obtain ⟨S4, hS4⟩ : ∃ S4, S3 ++ (⟨#[10]⟩ : ByteArray) = S4 := ⟨_, rfl⟩
          obtain ⟨S5, hS5⟩ : ∃ S5, (⟨acc1.toArray⟩ : ByteArray) ++ S4 = S5 := ⟨_, rfl⟩
          have z1 : S1.size ≤ 8 := by rw [← hS1, ByteArray.size_append]; show 6 + _ ≤ 8; omega
          have z2 : S2.size ≤ 9 := by rw [← hS2, ByteArray.size_append]; show _ + 1 ≤ 9; omega
          have z3 : S3.size ≤ 14 := by rw [← hS3, ByteArray.size_append]; omega
          have z4 : S4.size ≤ 15 := by rw [← hS4, ByteArray.size_append]; show _ + 1 ≤ 15; omega
          have hc1 : ∀ w, (Op.stringOp .add (⟨#[98, 97, 99, 107, 32, 114]⟩ : ByteArray) DG).run Tryd.prog w = .ok (.string S1) w := fun w => by rw [← hS1]; exact run_string_add_sum w _ _ (by show 6 + _ ≤ _; omega)
          have hc2 : ∀ w, (Op.stringOp .add S1 (⟨#[32]⟩ : ByteArray)).run Tryd.prog w = .ok (.string S2) w := fun w => by rw [← hS2]; exact run_string_add_sum w _ _ (by show _ + 1 ≤ _; omega)
          have hc3 : ∀ w, (Op.stringOp .add S2 NM).run Tryd.prog w = .ok (.string S3) w := fun w => by rw [← hS3]; exact run_string_add_sum w _ _ (by omega)
          have hc4 : ∀ w, (Op.stringOp .add S3 (⟨#[10]⟩ : ByteArray)).run Tryd.prog w = .ok (.string S4) w := fun w => by rw [← hS4]; exact run_string_add_sum w _ _ (by show _ + 1 ≤ _; omega)
          have hc5 : ∀ w, (Op.stringOp .add (⟨acc1.toArray⟩ : ByteArray) S4).run Tryd.prog w = .ok (.string S5) w := fun w => by rw [← hS5]; exact run_string_add_sum w _ _ (by show acc1.toArray.size + _ ≤ _; rw [List.size_toArray]; omega)
          have HS : Hid (S5 = (⟨acc1.toArray⟩ : ByteArray) ++ ((((⟨#[98, 97, 99, 107, 32, 114]⟩ : ByteArray) ++ DG) ++ (⟨#[32]⟩ : ByteArray) ++ NM) ++ (⟨#[10]⟩ : ByteArray))) := by show _ = _; rw [hS1, hS2, hS3, hS4, hS5]
          clear hS1 hS2 hS3 hS4 hS5 z1 z2 z3 z4
          have hwm : IntKind.i64.wrap (mm : Int) = (mm : Int) := by rw [IntKind.wrap_i64]; omega
          go_upto_region 23 with fail
          have HBd := Lib.hid (HB5.out.drew)
          have hzd := HBd.out.size
          have d1 : W5.drew.cell? ⟨w4.heap.size, 1, none⟩ = some (.int .i64 (ra : Int)) := j1
          have d4 : W5.drew.cell? ⟨w4.heap.size, 4, none⟩ = some (.int .u64 (mm : Int)) := j4
          go_region_held3 (fun w' => w'.cell? ⟨w4.heap.size, 1, none⟩ = some (.int .i64 (ra : Int)) ∧ w'.cell? ⟨w4.heap.size, 4, none⟩ = some (.int .u64 (mm : Int)))
            (first | exact ⟨d1, d4⟩ | exact ⟨j1, j4⟩ | go_keep)
            (first
              | (go_at_call 17
                 refine (ldig_any ra (by omega) _).mono ?_
                 rintro e wn ⟨rfl, hbn⟩
                 rw [HDG.out]
                 have HBd := Lib.hid (HBd.out.trans (hbn.mono hzd))
                 have hzd := HBd.out.size
                 have d1 := (hbn.cell (p := ⟨w4.heap.size, 1, none⟩) (World.block_lt_of_cell? _ _ d1)).trans d1
                 have d4 := (hbn.cell (p := ⟨w4.heap.size, 4, none⟩) (World.block_lt_of_cell? _ _ d4)).trans d4
                 clear hbn)
              | (go_at_call 16
                 refine (nmk_any a b mm ha hb (by omega) _ _ _ (belowCell HBd.out CA.out hza) (belowCell HBd.out CB.out hzb)).mono ?_
                 rintro e wn ⟨rfl, hbn⟩
                 rw [HNM.out]
                 have HBd := Lib.hid (HBd.out.trans (hbn.mono hzd))
                 have hzd := HBd.out.size
                 have d1 := (hbn.cell (p := ⟨w4.heap.size, 1, none⟩) (World.block_lt_of_cell? _ _ d1)).trans d1
                 have d4 := (hbn.cell (p := ⟨w4.heap.size, 4, none⟩) (World.block_lt_of_cell? _ _ d4)).trans d4
                 clear hbn))
          all_goals
            go_wp2
            go_roundw
            case rel =>
              refine ⟨k + 1, acc1 ++ lnB (nameP a b) ⟨19, ra, rb, rc, (mm : Int)⟩, ⟨by omega, by go_num, ?_⟩, HA3.out, HBd.out⟩
              rw [HL1.out, Int.toNat_natCast, HNM.out, HDG.out, HS.out]
              refine congrArg Value.string (ByteArray.ext (Array.toList_inj.1 ?_))
              simp [ByteArray.data_append]
            case measure => simp [intOf]; omega
        have e17 : (oo == 17) = false := beq_eq_false_iff_ne.2 h17
        have e18 : (oo == 18) = false := beq_eq_false_iff_ne.2 h18
        have e19 : (oo == 19) = false := beq_eq_false_iff_ne.2 h19
        have HGs : Hid (goesP oo = false) := by show _ = _; unfold goesP; simp [h17, h18, h19]
        have hone := text_one (i := ⟨oo, ra, rb, rc, om⟩) HPi.out HGs.out
        obtain ⟨PL, hPL⟩ : ∃ PL, lineB ⟨oo, ra, rb, rc, om⟩ = PL := ⟨_, rfl⟩
        have hPl : PL.length ≤ 176 := by rw [← hPL]; exact lineB_le hom
        rw [hPL] at hone
        have HL1 : Hid (lnB (nameP a b) ⟨oo, ra, rb, rc, om⟩ = PL) := by show _ = _; unfold lnB; rw [if_neg (by rw [HGs.out]; simp)]; exact hPL
        have R1 : Hid (Rd (W5.alloc (.cells #[.int .i64 oo, .int .i64 (ra : Int), .int .i64 (rb : Int), .int .i64 (rc : Int), .int .u64 om] 35)) (W5.heap.size + 1) 5 (some ⟨W5.heap.size, 0, none⟩) 1 (insCells [⟨oo, ra, rb, rc, om⟩])) := Rd.new W5 _ _ (size := 5) (m := 1) rfl (by simp [maxLen])
        have hta := text_any [⟨oo, ra, rb, rc, om⟩] (some ⟨W5.heap.size, 0, none⟩) 1
        rw [hone] at hta
        have HTa := Lib.hid hta
        have HBa := Lib.hid (HB5.out.alloc HB5.out.size (.cells #[.int .i64 oo, .int .i64 (ra : Int), .int .i64 (rb : Int), .int .i64 (rc : Int), .int .u64 om] 35))
        have HSw : Hid (W5.heap.size + 1 ≤ (W5.alloc (.cells #[.int .i64 oo, .int .i64 (ra : Int), .int .i64 (rb : Int), .int .i64 (rc : Int), .int .u64 om] 35)).heap.size) := by show _ ≤ _; simp
        clear hone hPL hta
        go_wp2_with (
          go_at_call 11
          refine (HTa.out _ _ (R1.out.more HSw.out) (by decide) (by intro i hi; rw [List.mem_singleton.1 hi]; exact HKI.out) (HT2.out.below HBa.out)).mono ?_
          rintro e w6 ⟨rfl, hb6⟩
          have HB6 := Lib.hid (HBa.out.trans (hb6.mono HBa.out.size))
          clear hb6)
        go_roundw
        case rel =>
          refine ⟨k + 1, acc1 ++ lnB (nameP a b) ⟨oo, ra, rb, rc, om⟩, ⟨by omega, by go_num, ?_⟩, HA3.out, HB6.out⟩
          rw [HL1.out]
          refine congrArg Value.string (ByteArray.ext (Array.toList_inj.1 ?_))
          simp [ByteArray.data_append]
        case measure => simp [intOf]; omega
      · obtain rfl : k = n := by omega
        have hfin : acc1 = TT := by
          have h := HA2.out
          rw [List.drop_of_length_le (by rw [HLen.out]; exact Nat.le_refl _), txB] at h
          rw [← h, HAc.out]
        have HFin := Lib.hid hfin
        clear hfin
        have hSl : (⟨acc1.toArray⟩ : ByteArray).size ≤ maxLen := by show acc1.toArray.size ≤ _; rw [List.size_toArray]; unfold maxLen; omega
        have HAs2 : Hid (asmP ⟨acc1.toArray⟩ = (l, aa, 0)) := by show _ = _; rw [HFin.out]; exact HAs.out
        have HLL : Hid (k = l.length) := HLen.out.symm
        go_wp2_with (first
          | (go_at_call 14
             refine (asm_to HAs2.out _ hSl).mono ?_
             rintro e u1 ⟨A1, c1, rfl, hc1, hr1, _, hb1⟩
             have HR1' := Lib.hid hr1
             have HB1' := Lib.hid (HB4.out.trans (hb1.mono HB4.out.size))
             have HW1 := Lib.hid ((HR.out.below (HBW.out.trans (HB1'.out.mono HBW.out.size))).more (HBW.out.trans (HB1'.out.mono HBW.out.size)).size)
             clear hb1 hr1 hc1)
          | (go_at_call 15
             refine (same_is l A1 A l.length c1 k c u1 HR1'.out HW1.out).mono ?_
             rintro e u2 ⟨rfl, hb2⟩
             have HB2' := Lib.hid (HB1'.out.trans (hb2.mono HB1'.out.size))
             clear hb2))
        go_ret
        exact ⟨rfl, HBW.out.trans (HB2'.out.mono HBW.out.size)⟩
    · have hte : ((k : Int) == (t : Int)) = false := beq_eq_false_iff_ne.2 (by omega)
      have hte2 : ¬ (k : Int) = (t : Int) := by omega
      obtain ⟨acc1, hac1⟩ : ∃ acc1 : List UInt8, acc ++ hdB (nameP a b) t k = acc1 := ⟨_, rfl⟩
      have HAc := Lib.hid hac1
      have hal1 : acc1.length ≤ 30000 := by
        have h := HA2.out
        have h2 := congrArg List.length h
        rw [← hac1]
        cases hd : l.drop k with
        | nil => rw [hd, txB] at h2; omega
        | cons i r => rw [hd, txB] at h2; simp only [List.length_append] at h2 ⊢; omega
      have HTx : Hid (⟨acc.toArray⟩ ++ (NK ++ ⟨#[58, 10]⟩) = ⟨acc1.toArray⟩) := by
        show _ = _
        rw [← hac1]
        unfold hdB; rw [if_neg hat, hNk]
        refine ByteArray.ext (Array.toList_inj.1 ?_)
        simp [ByteArray.data_append]
      clear hac1
      have HNk := Lib.hid hNk
      go_upto_region 14 with (
        go_at_call 16
        refine (nmk_any a b k ha hb (by omega) _ _ wr (belowCell HB.out CA.out hza) (belowCell HB.out CB.out hzb)).mono ?_
        rintro e w4 ⟨rfl, hb4⟩
        rw [HNk.out]
        have HB4 := Lib.hid (HB.out.trans (hb4.mono HB.out.size))
        clear hb4)
      rw [HTx.out]

      by_cases hlt : k < n
      · have hne : ((k : Int) == (n : Int)) = false := beq_eq_false_iff_ne.2 (by omega)
        have hne2 : ¬ (k : Int) = (n : Int) := by omega
        have hlti : (k : Int) < (n : Int) := by omega
        obtain ⟨bq, o, ⟨oo, oa, ob, oc, om⟩, rfl, hbB, hik, c0, c1, c2, c3, c4⟩ := (HR.out.below (HBW.out.trans (HB4.out.mono HBW.out.size))).insAt hlt
        have hpi := HPl.out _ (List.mem_of_getElem? hik)
        have hom := (HOk.out _ (List.mem_of_getElem? hik)).imm
        simp only at hpi hom
        obtain ⟨q0, q1, q2, q3⟩ := plain_facts hpi
        obtain ⟨ra, rfl⟩ : ∃ ra : Nat, oa = (ra : Int) := ⟨oa.toNat, by omega⟩
        obtain ⟨rb, rfl⟩ : ∃ rb : Nat, ob = (rb : Int) := ⟨ob.toNat, by omega⟩
        obtain ⟨rc, rfl⟩ : ∃ rc : Nat, oc = (rc : Int) := ⟨oc.toNat, by omega⟩
        have HPi : Hid (plainB oo ra rb rc om = true) := hpi
        have HKI : Hid (Ins.Ok ⟨oo, ra, rb, rc, om⟩) := HOk.out _ (List.mem_of_getElem? hik)
        have HGo : Hid (goesP oo = true → om ≤ (n : Int)) := HFg.out k ⟨oo, ra, rb, rc, om⟩ hik
        have hdr : l.drop k = ⟨oo, ra, rb, rc, om⟩ :: l.drop (k + 1) := by
          have hkl2 : k < l.length := by rw [HLen.out]; exact hlt
          rw [List.drop_eq_getElem_cons hkl2]; rw [List.getElem?_eq_getElem hkl2] at hik; injection hik with hik; rw [hik]
        have HA3 : Hid ((acc1 ++ lnB (nameP a b) ⟨oo, ra, rb, rc, om⟩) ++ txB (nameP a b) t (l.drop (k + 1)) (k + 1) = TT) := by
          have h := HA2.out
          rw [hdr, txB] at h
          show _ = _
          rw [← h, ← HAc.out]
          simp only [List.append_assoc]
        clear hdr hik hpi
        go_upto_region 16 with fail
        obtain ⟨W5, hW5⟩ : ∃ W5, w4.alloc (.cells #[.int .i64 oo, .int .i64 (ra : Int), .int .i64 (rb : Int), .int .i64 (rc : Int), .int .u64 om] 35) = W5 := ⟨_, rfl⟩
        rw [hW5]
        have HI5 : Hid (Bk W5 w4.heap.size 35 #[.int .i64 oo, .int .i64 (ra : Int), .int .i64 (rb : Int), .int .i64 (rc : Int), .int .u64 om]) := by show Bk _ _ _ _; rw [← hW5]; exact Bk.new _ _ _
        have HB5 : Hid (Below W2.heap.size W2 W5) := by show Below _ _ _; rw [← hW5]; exact HB4.out.alloc HB4.out.size _
        clear hW5 c0 c1 c2 c3 c4
        have j0 : W5.cell? ⟨w4.heap.size, 0, none⟩ = some (.int .i64 oo) := HI5.out.cell 0
        have j1 : W5.cell? ⟨w4.heap.size, 1, none⟩ = some (.int .i64 (ra : Int)) := HI5.out.cell 1
        have j2 : W5.cell? ⟨w4.heap.size, 2, none⟩ = some (.int .i64 (rb : Int)) := HI5.out.cell 2
        have j3 : W5.cell? ⟨w4.heap.size, 3, none⟩ = some (.int .i64 (rc : Int)) := HI5.out.cell 3
        have j4 : W5.cell? ⟨w4.heap.size, 4, none⟩ = some (.int .u64 om) := HI5.out.cell 4
        by_cases h17 : oo = 17
        · subst h17
          have HL1 := Lib.hid (lnB_17 a b ra rb rc om)
          obtain ⟨mm, rfl⟩ : ∃ mm : Nat, om = (mm : Int) := ⟨om.toNat, by omega⟩
          have hmm : mm ≤ 40 := by have := HGo.out rfl; omega
          obtain ⟨NM, hNM⟩ : ∃ NM, nameP a b mm = NM := ⟨_, rfl⟩
          have hNMs : NM.size = 5 := by rw [← hNM]; rfl
          have HNM := Lib.hid hNM
          obtain ⟨DG, hDG⟩ : ∃ DG, digS ra = DG := ⟨_, rfl⟩
          have hDGs : DG.size ≤ 2 := by rw [← hDG]; exact digS_le ra
          have HDG := Lib.hid hDG
          clear hNM hDG

          go_wp2_with (
            go_at_call 16
            refine (nmk_any a b mm ha hb (by omega) _ _ W5 (belowCell HB5.out CA.out hza) (belowCell HB5.out CB.out hzb)).mono ?_
            rintro e w6 ⟨rfl, hb6⟩
            rw [HNM.out]
            have HB6 := Lib.hid (HB5.out.trans (hb6.mono HB5.out.size))
            clear hb6)
          go_roundw
          case rel =>
            refine ⟨k + 1, acc1 ++ lnB (nameP a b) ⟨17, ra, rb, rc, (mm : Int)⟩, ⟨by omega, by go_num, ?_⟩, HA3.out, HB6.out⟩
            rw [HL1.out, Int.toNat_natCast, HNM.out]
            refine congrArg Value.string (ByteArray.ext (Array.toList_inj.1 ?_))
            simp [ByteArray.data_append]
          case measure => simp [intOf]; omega
        by_cases h18 : oo = 18
        · subst h18
          have HL1 := Lib.hid (lnB_18 a b ra rb rc om)
          obtain ⟨mm, rfl⟩ : ∃ mm : Nat, om = (mm : Int) := ⟨om.toNat, by omega⟩
          have hmm : mm ≤ 40 := by have := HGo.out rfl; omega
          obtain ⟨NM, hNM⟩ : ∃ NM, nameP a b mm = NM := ⟨_, rfl⟩
          have hNMs : NM.size = 5 := by rw [← hNM]; rfl
          have HNM := Lib.hid hNM
          obtain ⟨DG, hDG⟩ : ∃ DG, digS ra = DG := ⟨_, rfl⟩
          have hDGs : DG.size ≤ 2 := by rw [← hDG]; exact digS_le ra
          have HDG := Lib.hid hDG
          clear hNM hDG

          obtain ⟨S1, hS1⟩ : ∃ S1, (⟨#[122, 101, 114, 111, 32, 114]⟩ : ByteArray) ++ DG = S1 := ⟨_, rfl⟩
          obtain ⟨S2, hS2⟩ : ∃ S2, S1 ++ (⟨#[32]⟩ : ByteArray) = S2 := ⟨_, rfl⟩
          obtain ⟨S3, hS3⟩ : ∃ S3, S2 ++ NM = S3 := ⟨_, rfl⟩
          obtain ⟨S4, hS4⟩ : ∃ S4, S3 ++ (⟨#[10]⟩ : ByteArray) = S4 := ⟨_, rfl⟩
          obtain ⟨S5, hS5⟩ : ∃ S5, (⟨acc1.toArray⟩ : ByteArray) ++ S4 = S5 := ⟨_, rfl⟩
          have z1 : S1.size ≤ 8 := by rw [← hS1, ByteArray.size_append]; show 6 + _ ≤ 8; omega
          have z2 : S2.size ≤ 9 := by rw [← hS2, ByteArray.size_append]; show _ + 1 ≤ 9; omega
          have z3 : S3.size ≤ 14 := by rw [← hS3, ByteArray.size_append]; omega
          have z4 : S4.size ≤ 15 := by rw [← hS4, ByteArray.size_append]; show _ + 1 ≤ 15; omega
          have hc1 : ∀ w, (Op.stringOp .add (⟨#[122, 101, 114, 111, 32, 114]⟩ : ByteArray) DG).run Tryd.prog w = .ok (.string S1) w := fun w => by rw [← hS1]; exact run_string_add_sum w _ _ (by show 6 + _ ≤ _; omega)
          have hc2 : ∀ w, (Op.stringOp .add S1 (⟨#[32]⟩ : ByteArray)).run Tryd.prog w = .ok (.string S2) w := fun w => by rw [← hS2]; exact run_string_add_sum w _ _ (by show _ + 1 ≤ _; omega)
          have hc3 : ∀ w, (Op.stringOp .add S2 NM).run Tryd.prog w = .ok (.string S3) w := fun w => by rw [← hS3]; exact run_string_add_sum w _ _ (by omega)
          have hc4 : ∀ w, (Op.stringOp .add S3 (⟨#[10]⟩ : ByteArray)).run Tryd.prog w = .ok (.string S4) w := fun w => by rw [← hS4]; exact run_string_add_sum w _ _ (by show _ + 1 ≤ _; omega)
          have hc5 : ∀ w, (Op.stringOp .add (⟨acc1.toArray⟩ : ByteArray) S4).run Tryd.prog w = .ok (.string S5) w := fun w => by rw [← hS5]; exact run_string_add_sum w _ _ (by show acc1.toArray.size + _ ≤ _; rw [List.size_toArray]; omega)
          have HS : Hid (S5 = (⟨acc1.toArray⟩ : ByteArray) ++ ((((⟨#[122, 101, 114, 111, 32, 114]⟩ : ByteArray) ++ DG) ++ (⟨#[32]⟩ : ByteArray) ++ NM) ++ (⟨#[10]⟩ : ByteArray))) := by show _ = _; rw [hS1, hS2, hS3, hS4, hS5]
          clear hS1 hS2 hS3 hS4 hS5 z1 z2 z3 z4
          have hwm : IntKind.i64.wrap (mm : Int) = (mm : Int) := by rw [IntKind.wrap_i64]; omega
          go_upto_region 21 with fail
          have HBd := Lib.hid (HB5.out.drew)
          have hzd := HBd.out.size
          have d1 : W5.drew.cell? ⟨w4.heap.size, 1, none⟩ = some (.int .i64 (ra : Int)) := j1
          have d4 : W5.drew.cell? ⟨w4.heap.size, 4, none⟩ = some (.int .u64 (mm : Int)) := j4
          go_region_held3 (fun w' => w'.cell? ⟨w4.heap.size, 1, none⟩ = some (.int .i64 (ra : Int)) ∧ w'.cell? ⟨w4.heap.size, 4, none⟩ = some (.int .u64 (mm : Int)))
            (first | exact ⟨d1, d4⟩ | exact ⟨j1, j4⟩ | go_keep)
            (first
              | (go_at_call 17
                 refine (ldig_any ra (by omega) _).mono ?_
                 rintro e wn ⟨rfl, hbn⟩
                 rw [HDG.out]
                 have HBd := Lib.hid (HBd.out.trans (hbn.mono hzd))
                 have hzd := HBd.out.size
                 have d1 := (hbn.cell (p := ⟨w4.heap.size, 1, none⟩) (World.block_lt_of_cell? _ _ d1)).trans d1
                 have d4 := (hbn.cell (p := ⟨w4.heap.size, 4, none⟩) (World.block_lt_of_cell? _ _ d4)).trans d4
                 clear hbn)
              | (go_at_call 16
                 refine (nmk_any a b mm ha hb (by omega) _ _ _ (belowCell HBd.out CA.out hza) (belowCell HBd.out CB.out hzb)).mono ?_
                 rintro e wn ⟨rfl, hbn⟩
                 rw [HNM.out]
                 have HBd := Lib.hid (HBd.out.trans (hbn.mono hzd))
                 have hzd := HBd.out.size
                 have d1 := (hbn.cell (p := ⟨w4.heap.size, 1, none⟩) (World.block_lt_of_cell? _ _ d1)).trans d1
                 have d4 := (hbn.cell (p := ⟨w4.heap.size, 4, none⟩) (World.block_lt_of_cell? _ _ d4)).trans d4
                 clear hbn))
          all_goals
            go_wp2
            go_roundw
            case rel =>
              refine ⟨k + 1, acc1 ++ lnB (nameP a b) ⟨18, ra, rb, rc, (mm : Int)⟩, ⟨by omega, by go_num, ?_⟩, HA3.out, HBd.out⟩
              rw [HL1.out, Int.toNat_natCast, HNM.out, HDG.out, HS.out]
              refine congrArg Value.string (ByteArray.ext (Array.toList_inj.1 ?_))
              simp [ByteArray.data_append]
            case measure => simp [intOf]; omega
        by_cases h19 : oo = 19
        · subst h19
          have HL1 := Lib.hid (lnB_19 a b ra rb rc om)
          obtain ⟨mm, rfl⟩ : ∃ mm : Nat, om = (mm : Int) := ⟨om.toNat, by omega⟩
          have hmm : mm ≤ 40 := by have := HGo.out rfl; omega
          obtain ⟨NM, hNM⟩ : ∃ NM, nameP a b mm = NM := ⟨_, rfl⟩
          have hNMs : NM.size = 5 := by rw [← hNM]; rfl
          have HNM := Lib.hid hNM
          obtain ⟨DG, hDG⟩ : ∃ DG, digS ra = DG := ⟨_, rfl⟩
          have hDGs : DG.size ≤ 2 := by rw [← hDG]; exact digS_le ra
          have HDG := Lib.hid hDG
          clear hNM hDG

          obtain ⟨S1, hS1⟩ : ∃ S1, (⟨#[98, 97, 99, 107, 32, 114]⟩ : ByteArray) ++ DG = S1 := ⟨_, rfl⟩
          obtain ⟨S2, hS2⟩ : ∃ S2, S1 ++ (⟨#[32]⟩ : ByteArray) = S2 := ⟨_, rfl⟩
          obtain ⟨S3, hS3⟩ : ∃ S3, S2 ++ NM = S3 := ⟨_, rfl⟩
          obtain ⟨S4, hS4⟩ : ∃ S4, S3 ++ (⟨#[10]⟩ : ByteArray) = S4 := ⟨_, rfl⟩
          obtain ⟨S5, hS5⟩ : ∃ S5, (⟨acc1.toArray⟩ : ByteArray) ++ S4 = S5 := ⟨_, rfl⟩
          have z1 : S1.size ≤ 8 := by rw [← hS1, ByteArray.size_append]; show 6 + _ ≤ 8; omega
          have z2 : S2.size ≤ 9 := by rw [← hS2, ByteArray.size_append]; show _ + 1 ≤ 9; omega
          have z3 : S3.size ≤ 14 := by rw [← hS3, ByteArray.size_append]; omega
          have z4 : S4.size ≤ 15 := by rw [← hS4, ByteArray.size_append]; show _ + 1 ≤ 15; omega
          have hc1 : ∀ w, (Op.stringOp .add (⟨#[98, 97, 99, 107, 32, 114]⟩ : ByteArray) DG).run Tryd.prog w = .ok (.string S1) w := fun w => by rw [← hS1]; exact run_string_add_sum w _ _ (by show 6 + _ ≤ _; omega)
          have hc2 : ∀ w, (Op.stringOp .add S1 (⟨#[32]⟩ : ByteArray)).run Tryd.prog w = .ok (.string S2) w := fun w => by rw [← hS2]; exact run_string_add_sum w _ _ (by show _ + 1 ≤ _; omega)
          have hc3 : ∀ w, (Op.stringOp .add S2 NM).run Tryd.prog w = .ok (.string S3) w := fun w => by rw [← hS3]; exact run_string_add_sum w _ _ (by omega)
          have hc4 : ∀ w, (Op.stringOp .add S3 (⟨#[10]⟩ : ByteArray)).run Tryd.prog w = .ok (.string S4) w := fun w => by rw [← hS4]; exact run_string_add_sum w _ _ (by show _ + 1 ≤ _; omega)
          have hc5 : ∀ w, (Op.stringOp .add (⟨acc1.toArray⟩ : ByteArray) S4).run Tryd.prog w = .ok (.string S5) w := fun w => by rw [← hS5]; exact run_string_add_sum w _ _ (by show acc1.toArray.size + _ ≤ _; rw [List.size_toArray]; omega)
          have HS : Hid (S5 = (⟨acc1.toArray⟩ : ByteArray) ++ ((((⟨#[98, 97, 99, 107, 32, 114]⟩ : ByteArray) ++ DG) ++ (⟨#[32]⟩ : ByteArray) ++ NM) ++ (⟨#[10]⟩ : ByteArray))) := by show _ = _; rw [hS1, hS2, hS3, hS4, hS5]
          clear hS1 hS2 hS3 hS4 hS5 z1 z2 z3 z4
          have hwm : IntKind.i64.wrap (mm : Int) = (mm : Int) := by rw [IntKind.wrap_i64]; omega
          go_upto_region 23 with fail
          have HBd := Lib.hid (HB5.out.drew)
          have hzd := HBd.out.size
          have d1 : W5.drew.cell? ⟨w4.heap.size, 1, none⟩ = some (.int .i64 (ra : Int)) := j1
          have d4 : W5.drew.cell? ⟨w4.heap.size, 4, none⟩ = some (.int .u64 (mm : Int)) := j4
          go_region_held3 (fun w' => w'.cell? ⟨w4.heap.size, 1, none⟩ = some (.int .i64 (ra : Int)) ∧ w'.cell? ⟨w4.heap.size, 4, none⟩ = some (.int .u64 (mm : Int)))
            (first | exact ⟨d1, d4⟩ | exact ⟨j1, j4⟩ | go_keep)
            (first
              | (go_at_call 17
                 refine (ldig_any ra (by omega) _).mono ?_
                 rintro e wn ⟨rfl, hbn⟩
                 rw [HDG.out]
                 have HBd := Lib.hid (HBd.out.trans (hbn.mono hzd))
                 have hzd := HBd.out.size
                 have d1 := (hbn.cell (p := ⟨w4.heap.size, 1, none⟩) (World.block_lt_of_cell? _ _ d1)).trans d1
                 have d4 := (hbn.cell (p := ⟨w4.heap.size, 4, none⟩) (World.block_lt_of_cell? _ _ d4)).trans d4
                 clear hbn)
              | (go_at_call 16
                 refine (nmk_any a b mm ha hb (by omega) _ _ _ (belowCell HBd.out CA.out hza) (belowCell HBd.out CB.out hzb)).mono ?_
                 rintro e wn ⟨rfl, hbn⟩
                 rw [HNM.out]
                 have HBd := Lib.hid (HBd.out.trans (hbn.mono hzd))
                 have hzd := HBd.out.size
                 have d1 := (hbn.cell (p := ⟨w4.heap.size, 1, none⟩) (World.block_lt_of_cell? _ _ d1)).trans d1
                 have d4 := (hbn.cell (p := ⟨w4.heap.size, 4, none⟩) (World.block_lt_of_cell? _ _ d4)).trans d4
                 clear hbn))
          all_goals
            go_wp2
            go_roundw
            case rel =>
              refine ⟨k + 1, acc1 ++ lnB (nameP a b) ⟨19, ra, rb, rc, (mm : Int)⟩, ⟨by omega, by go_num, ?_⟩, HA3.out, HBd.out⟩
              rw [HL1.out, Int.toNat_natCast, HNM.out, HDG.out, HS.out]
              refine congrArg Value.string (ByteArray.ext (Array.toList_inj.1 ?_))
              simp [ByteArray.data_append]
            case measure => simp [intOf]; omega
        have e17 : (oo == 17) = false := beq_eq_false_iff_ne.2 h17
        have e18 : (oo == 18) = false := beq_eq_false_iff_ne.2 h18
        have e19 : (oo == 19) = false := beq_eq_false_iff_ne.2 h19
        have HGs : Hid (goesP oo = false) := by show _ = _; unfold goesP; simp [h17, h18, h19]
        have hone := text_one (i := ⟨oo, ra, rb, rc, om⟩) HPi.out HGs.out
        obtain ⟨PL, hPL⟩ : ∃ PL, lineB ⟨oo, ra, rb, rc, om⟩ = PL := ⟨_, rfl⟩
        have hPl : PL.length ≤ 176 := by rw [← hPL]; exact lineB_le hom
        rw [hPL] at hone
        have HL1 : Hid (lnB (nameP a b) ⟨oo, ra, rb, rc, om⟩ = PL) := by show _ = _; unfold lnB; rw [if_neg (by rw [HGs.out]; simp)]; exact hPL
        have R1 : Hid (Rd (W5.alloc (.cells #[.int .i64 oo, .int .i64 (ra : Int), .int .i64 (rb : Int), .int .i64 (rc : Int), .int .u64 om] 35)) (W5.heap.size + 1) 5 (some ⟨W5.heap.size, 0, none⟩) 1 (insCells [⟨oo, ra, rb, rc, om⟩])) := Rd.new W5 _ _ (size := 5) (m := 1) rfl (by simp [maxLen])
        have hta := text_any [⟨oo, ra, rb, rc, om⟩] (some ⟨W5.heap.size, 0, none⟩) 1
        rw [hone] at hta
        have HTa := Lib.hid hta
        have HBa := Lib.hid (HB5.out.alloc HB5.out.size (.cells #[.int .i64 oo, .int .i64 (ra : Int), .int .i64 (rb : Int), .int .i64 (rc : Int), .int .u64 om] 35))
        have HSw : Hid (W5.heap.size + 1 ≤ (W5.alloc (.cells #[.int .i64 oo, .int .i64 (ra : Int), .int .i64 (rb : Int), .int .i64 (rc : Int), .int .u64 om] 35)).heap.size) := by show _ ≤ _; simp
        clear hone hPL hta
        go_wp2_with (
          go_at_call 11
          refine (HTa.out _ _ (R1.out.more HSw.out) (by decide) (by intro i hi; rw [List.mem_singleton.1 hi]; exact HKI.out) (HT2.out.below HBa.out)).mono ?_
          rintro e w6 ⟨rfl, hb6⟩
          have HB6 := Lib.hid (HBa.out.trans (hb6.mono HBa.out.size))
          clear hb6)
        go_roundw
        case rel =>
          refine ⟨k + 1, acc1 ++ lnB (nameP a b) ⟨oo, ra, rb, rc, om⟩, ⟨by omega, by go_num, ?_⟩, HA3.out, HB6.out⟩
          rw [HL1.out]
          refine congrArg Value.string (ByteArray.ext (Array.toList_inj.1 ?_))
          simp [ByteArray.data_append]
        case measure => simp [intOf]; omega
      · obtain rfl : k = n := by omega
        have hfin : acc1 = TT := by
          have h := HA2.out
          rw [List.drop_of_length_le (by rw [HLen.out]; exact Nat.le_refl _), txB] at h
          rw [← h, HAc.out]
        have HFin := Lib.hid hfin
        clear hfin
        have hSl : (⟨acc1.toArray⟩ : ByteArray).size ≤ maxLen := by show acc1.toArray.size ≤ _; rw [List.size_toArray]; unfold maxLen; omega
        have HAs2 : Hid (asmP ⟨acc1.toArray⟩ = (l, aa, 0)) := by show _ = _; rw [HFin.out]; exact HAs.out
        have HLL : Hid (k = l.length) := HLen.out.symm
        go_wp2_with (first
          | (go_at_call 14
             refine (asm_to HAs2.out _ hSl).mono ?_
             rintro e u1 ⟨A1, c1, rfl, hc1, hr1, _, hb1⟩
             have HR1' := Lib.hid hr1
             have HB1' := Lib.hid (HB4.out.trans (hb1.mono HB4.out.size))
             have HW1 := Lib.hid ((HR.out.below (HBW.out.trans (HB1'.out.mono HBW.out.size))).more (HBW.out.trans (HB1'.out.mono HBW.out.size)).size)
             clear hb1 hr1 hc1)
          | (go_at_call 15
             refine (same_is l A1 A l.length c1 k c u1 HR1'.out HW1.out).mono ?_
             rintro e u2 ⟨rfl, hb2⟩
             have HB2' := Lib.hid (HB1'.out.trans (hb2.mono HB1'.out.size))
             clear hb2))
        go_ret
        exact ⟨rfl, HBW.out.trans (HB2'.out.mono HBW.out.size)⟩
end Go.Proofs.YthdlihiehfkceaaDoor
