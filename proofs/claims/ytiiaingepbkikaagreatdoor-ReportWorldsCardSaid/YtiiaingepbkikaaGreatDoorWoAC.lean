import Derived.Test.YtiiaingepbkikaaGreatDoorWoAB
import Derived.Deep.RegionHeld3
import Derived.Deep.RegionLaw
import Derived.Deep.Cut
import Derived.Deep.CutRange
import Derived.Deep.DeepCutAuto
namespace Go.Proofs.YtiiaingepbkikaaGreatDoor
open Go.RowKit
set_option linter.unusedVariables false
theorem info_str : (Tryz.prog.info? 9).map (fun i => (i.zero, i.size, i.bytes)) = some (some (.string ⟨#[]⟩), 1, 16) := by kernel_rfl
theorem who_enc : ∀ k : Fin 8, (Utf8.encode ((97 + k.val : Nat) : Int)).data.toList = [UInt8.ofNat (97 + k.val)] := by decide +kernel
theorem whoP_in {who : Int} (h0 : 0 ≤ who) (h8 : who < 8) : Utf8.encode (97 + who) = str (whoP who) := by
 obtain ⟨k, rfl⟩ : ∃ k : Nat, who = (k : Int) := ⟨who.toNat, by omega⟩
 have h := who_enc ⟨k, by omega⟩
 simp only at h
 have e : ((97 + k : Nat) : Int) = 97 + (k : Int) := by omega
 rw [e] at h
 rw [whoP, if_pos ⟨h0, h8⟩, Int.toNat_natCast, ← h, str_of]
theorem whoP_out {who : Int} (h : ¬ (0 ≤ who ∧ who < 8)) : whoP who = [45] := by rw [whoP, if_neg h]
theorem index4 (a0 a1 a2 a3 : Int) (W : World) :
 (Instr.index 49 (.agg #[.int .u64 a0, .int .u64 a1, .int .u64 a2, .int .u64 a3]) (.int .i64 0)).run Tryz.prog W = .ok (.int .u64 a0) W ∧
 (Instr.index 49 (.agg #[.int .u64 a0, .int .u64 a1, .int .u64 a2, .int .u64 a3]) (.int .i64 1)).run Tryz.prog W = .ok (.int .u64 a1) W ∧
 (Instr.index 49 (.agg #[.int .u64 a0, .int .u64 a1, .int .u64 a2, .int .u64 a3]) (.int .i64 2)).run Tryz.prog W = .ok (.int .u64 a2) W ∧
 (Instr.index 49 (.agg #[.int .u64 a0, .int .u64 a1, .int .u64 a2, .int .u64 a3]) (.int .i64 3)).run Tryz.prog W = .ok (.int .u64 a3) W := by
 refine ⟨?_, ?_, ?_, ?_⟩ <;> simp [Instr.index, run_underlying Tryz.underlying49, asIntOf, go_sem]
set_option maxRecDepth 100000 in
set_option maxHeartbeats 8000000 in
theorem record_any (names : List ByteArray) (A : Option Addr) (n c : Nat) (r : Rec) (w : World) (hN : RdS w w.heap.size A n names) (hok : r.Ok) (hn : n ≤ 1000) (hsz : ∀ x ∈ names, x.size ≤ 1000) (htab : PowTab w) :
 Calls Tryz.prog 14 #[.slice A n c, r.v] w fun e w' => e = .returned (.string (str (recordP names r))) ∧ Below w.heap.size w w' := by
 obtain ⟨i0, hi0, hy0, hy1, hy2⟩ := info_parts info_str
 have HNs := Lib.hid hN
 have HNl := hN.strLen
 have HT := Lib.hid htab
 have HPl := Lib.hid (parts_len names r hok hsz)
 obtain ⟨who, tag, prog, a0, a1, a2, a3, from_, till, steps, done, code, val⟩ := r
 obtain ⟨⟨o1, o2⟩, ⟨o3, o4⟩, ⟨o5, o6⟩, ⟨o7, o8⟩, ⟨o9, o10⟩, ⟨o11, o12⟩, ⟨o13, o14⟩, ⟨o15, o16⟩, ⟨o17, o18⟩, ⟨o19, o20⟩, ⟨o21, o22⟩, ⟨o23, o24⟩⟩ := hok
 simp only at o1 o2 o3 o4 o5 o6 o7 o8 o9 o10 o11 o12 o13 o14 o15 o16 o17 o18 o19 o20 o21 o22 o23 o24
 clear hN htab hsz
 simp only [Rec.v]
 obtain ⟨BX, hBX⟩ : ∃ BX : Array Value, #[.int .i64 who, .int .i64 tag, .int .i64 prog, .int .u64 a0, .int .u64 a1, .int .u64 a2, .int .u64 a3, .int .i64 from_, .int .i64 till, .int .i64 steps, .bool done, .int .i64 code, .int .u64 val] = BX := ⟨_, rfl⟩
 have HBK : Hid (Bk (w.alloc (.cells BX 65)) w.heap.size 65 BX) := Bk.new w _ _
 have HB0 : Hid (Below w.heap.size w (w.alloc (.cells BX 65))) := (Below.refl _ _).alloc (Nat.le_refl _) _
 have HT0 : Hid (PowTab (w.alloc (.cells BX 65))) := HT.out.below HB0.out
 have HBXe := Lib.hid hBX
 clear hBX
 go_enter Tryz.func14, Tryz.ntmps14
 go_wp2_with fail
 rw [HBXe.out]
 refine (itoa_any tag o3 o4 _ HT0.out).mono ?_
 rintro e w1 ⟨rfl, hb1⟩
 obtain ⟨T1, hT1⟩ : ∃ T1, str (Lib.itoa tag) = T1 := ⟨_, rfl⟩
 rw [hT1]
 have HT1 := Lib.hid hT1
 have HB1 := Lib.hid (HB0.out.trans (hb1.mono (by simp)))
 have BK1 := Lib.hid (HBK.out.below hb1 (by simp))
 have hz1' := HB1.out.size
 have hlt1 := BK1.out.lt
 clear hb1 hT1
 have x0 := BK1.out.cell 0
 have x2 := BK1.out.cell 2
 have x3 := BK1.out.cell 3
 have x4 := BK1.out.cell 4
 have x5 := BK1.out.cell 5
 have x6 := BK1.out.cell 6
 have x7 := BK1.out.cell 7
 have x8 := BK1.out.cell 8
 have x9 := BK1.out.cell 9
 rw [← HBXe.out] at x0 x2 x3 x4 x5 x6 x7 x8 x9
 simp at x0 x2 x3 x4 x5 x6 x7 x8 x9
 obtain ⟨W0, hW0⟩ : ∃ W0, str (whoP who) = W0 := ⟨_, rfl⟩
 have HW0 := Lib.hid hW0
 have HW3 : Hid ((0 ≤ who ∧ who < 8 ∧ Utf8.encode (97 + who) = W0) ∨ ((who < 0 ∨ (0 ≤ who ∧ 8 ≤ who)) ∧ W0 = ⟨#[45]⟩)) := by
  by_cases h : 0 ≤ who ∧ who < 8
  ·exact .inl ⟨h.1, h.2, by rw [← hW0]; exact whoP_in h.1 h.2⟩
  ·exact .inr ⟨by omega, by rw [← hW0, whoP_out h]; rfl⟩
 clear hW0
 go_upto_region 2 with fail
 go_cut [19] from 12 (fun v wx => v = .bool (decide (0 ≤ who ∧ who < 8)) ∧ wx = w1.alloc (.cells #[.string ⟨#[45]⟩, .string T1, .string ⟨#[45]⟩] 9))
 case first =>
  by_cases ha : 0 ≤ who
  ·by_cases hb : who < 8
   ·have hd : decide (0 ≤ who ∧ who < 8) = true := decide_eq_true ⟨ha, hb⟩
    go_wp2
    go_meet
    exact ⟨by first | rfl | (rw [hd]), rfl⟩
   ·have hd : decide (0 ≤ who ∧ who < 8) = false := decide_eq_false (fun h => hb h.2)
    have hb' : decide (who < 8) = false := decide_eq_false hb
    go_wp2
    go_meet
    exact ⟨by first | rfl | (rw [hd]), rfl⟩
  ·have hd : decide (0 ≤ who ∧ who < 8) = false := decide_eq_false (fun h => ha h.1)
   have ha' : decide (0 ≤ who) = false := decide_eq_false ha
   go_wp2
   go_meet
   exact ⟨by first | rfl | (rw [hd]), rfl⟩
 case rest =>
  obtain ⟨rfl, rfl⟩ := hcut
  go_upto_if 19 with fail
  go_cut [5] from 12 (fun v5 wx => v5 = .slice (some ⟨w1.heap.size, 0, none⟩) 3 3 ∧ wx = w1.alloc (.cells #[.string W0, .string T1, .string ⟨#[45]⟩] 9))
  case first =>
   rcases HW3.out with ⟨ha, hb, henc⟩ | ⟨hx, rfl⟩
   ·have hd : decide (0 ≤ who ∧ who < 8) = true := decide_eq_true ⟨ha, hb⟩
    have hcv : ∀ Wd, (convert 21 9 (.int .i32 (97 + who))).run Tryz.prog Wd = .ok (.string W0) Wd := fun Wd => by
     rw [← henc]
     exact run_convert_int_string Wd _ _ _ _ (by kernel_rfl) Tryz.underlying9
    clear henc
    go_wp2
    go_meet
    exact ⟨rfl, rfl⟩
   ·have hd : decide (0 ≤ who ∧ who < 8) = false := decide_eq_false (fun h => by omega)
    go_wp2
    go_meet
    exact ⟨rfl, rfl⟩
  case rest =>
   obtain ⟨rfl, rfl⟩ := hcut
   clear HW3
   obtain ⟨G2, hG2⟩ : ∃ G2, str (progP names prog) = G2 := ⟨_, rfl⟩
   have HG2 := Lib.hid hG2
   have HG3 : Hid ((0 ≤ prog ∧ prog < (n : Int) ∧ names[prog.toNat]? = some G2) ∨ ((prog < 0 ∨ (0 ≤ prog ∧ (n : Int) ≤ prog)) ∧ G2 = ⟨#[45]⟩)) := by
    by_cases h : 0 ≤ prog ∧ prog < (names.length : Int)
    ·refine .inl ⟨h.1, by omega, ?_⟩
     rw [← hG2, progP, if_pos h, str_of, List.getD_eq_getElem?_getD, List.getElem?_eq_getElem (by omega)]
     rfl
    ·exact .inr ⟨by omega, by rw [← hG2, progP, if_neg h]; rfl⟩
   clear hG2
   go_upto_region 4 with fail
   go_cut [38] from 12 (fun v wx => v = .bool (decide (0 ≤ prog ∧ prog < (n : Int))) ∧ wx = w1.alloc (.cells #[.string W0, .string T1, .string ⟨#[45]⟩] 9))
   case first =>
    by_cases ha : 0 ≤ prog
    ·by_cases hb : prog < (n : Int)
     ·have hd : decide (0 ≤ prog ∧ prog < (n : Int)) = true := decide_eq_true ⟨ha, hb⟩
      go_wp2
      go_meet
      exact ⟨by first | rfl | (rw [hd]), rfl⟩
     ·have hd : decide (0 ≤ prog ∧ prog < (n : Int)) = false := decide_eq_false (fun h => hb h.2)
      have hb' : decide (prog < (n : Int)) = false := decide_eq_false hb
      go_wp2
      go_meet
      exact ⟨by first | rfl | (rw [hd]), rfl⟩
    ·have hd : decide (0 ≤ prog ∧ prog < (n : Int)) = false := decide_eq_false (fun h => ha h.1)
     have ha' : decide (0 ≤ prog) = false := decide_eq_false ha
     go_wp2
     go_meet
     exact ⟨by first | rfl | (rw [hd]), rfl⟩
   case rest =>
    obtain ⟨rfl, rfl⟩ := hcut
    go_upto_if 38 with fail
    go_cut [5] from 12 (fun v5 wx => v5 = .slice (some ⟨w1.heap.size, 0, none⟩) 3 3 ∧ wx = w1.alloc (.cells #[.string W0, .string T1, .string G2] 9))
    case first =>
     rcases HG3.out with ⟨ha, hb, hget⟩ | ⟨hx, rfl⟩
     ·have hd : decide (0 ≤ prog ∧ prog < (n : Int)) = true := decide_eq_true ⟨ha, hb⟩
      obtain ⟨k, rfl⟩ : ∃ k : Nat, prog = (k : Int) := ⟨prog.toNat, by omega⟩
      rw [Int.toNat_natCast] at hget
      obtain ⟨b, o, rfl, hbB, hcell⟩ := (HNs.out.below (HB1.out.alloc hz1' (.cells #[.string W0, .string T1, .string ⟨#[45]⟩] 9))).at_ (by omega)
      have q0 := hcell k _ (by rw [List.getElem?_map, hget]; rfl)
      clear hcell hget
      go_wp2
      go_meet
      exact ⟨rfl, rfl⟩
     ·have hd : decide (0 ≤ prog ∧ prog < (n : Int)) = false := decide_eq_false (fun h => by omega)
      go_wp2
      go_meet
      exact ⟨rfl, rfl⟩
    case rest =>
     obtain ⟨rfl, rfl⟩ := hcut
     clear HG3
     have HOW : Hid ((w1.alloc (.cells #[.string W0, .string T1, .string G2] 9)).ownsRow w1.heap.size 9 1 (.slice (some ⟨w1.heap.size, 0, none⟩) 3 3) 3 [.string W0, .string T1, .string G2]) := own_new w1 _ _ (size := 1) (m := 3) rfl (by simp [maxLen]) (Nat.le_refl _)
     obtain ⟨N0, hN0⟩ : ∃ N0, str (dec a0) = N0 := ⟨_, rfl⟩
     obtain ⟨N1, hN1⟩ : ∃ N1, str (dec a1) = N1 := ⟨_, rfl⟩
     obtain ⟨N2, hN2⟩ : ∃ N2, str (dec a2) = N2 := ⟨_, rfl⟩
     obtain ⟨N3, hN3⟩ : ∃ N3, str (dec a3) = N3 := ⟨_, rfl⟩
     have HN0 := Lib.hid hN0
     have HN1 := Lib.hid hN1
     have HN2 := Lib.hid hN2
     have HN3 := Lib.hid hN3
     obtain ⟨NS, hNS⟩ : ∃ NS : List Value, [.string N0, .string N1, .string N2, .string N3] = NS := ⟨_, rfl⟩
     have HNS := Lib.hid hNS
     clear hN0 hN1 hN2 hN3 hNS
     go_wp2
     go_loopw [5, 7, 50] (fun out _a i wr => ∃ k : Nat, (k ≤ 4 ∧ i = .int .i64 k) ∧ wr.ownsRow w1.heap.size 9 1 out (3 + k) ([.string W0, .string T1, .string G2] ++ NS.take k) ∧ Below w1.heap.size w1 wr) (fun _ _ i _ => 4 - (intOf i).toNat)
     case atStart => exact ⟨0, ⟨by omega, rfl⟩, by simpa using HOW.out, (Below.refl _ _).alloc (Nat.le_refl _) _⟩
     case round =>
      obtain ⟨k, ⟨hk, rfl⟩, hown, hb⟩ := hrel
      have HB := Lib.hid hb
      have HO := Lib.hid hown
      have hsz := hb.size
      have HTr : Hid (PowTab wr) := HT.out.below (HB1.out.trans (hb.mono hz1'))
      obtain ⟨Ao, co, rfl, hco, _⟩ := Rd.of_own_cap hown
      clear hown hb
      have ix0 := fun W => (index4 a0 a1 a2 a3 W).1
      have ix1 := fun W => (index4 a0 a1 a2 a3 W).2.1
      have ix2 := fun W => (index4 a0 a1 a2 a3 W).2.2.1
      have ix3 := fun W => (index4 a0 a1 a2 a3 W).2.2.2
      have hk4 : k = 0 ∨ k = 1 ∨ k = 2 ∨ k = 3 ∨ k = 4 := by omega
      rcases hk4 with rfl | rfl | rfl | rfl | rfl
      ·go_wp2_with fail
       refine (num_any a0 o7 o8 _ HTr.out).mono ?_
       rintro e w2 ⟨rfl, hb2⟩
       rw [HN0.out]
       have HB2 := Lib.hid (HB.out.trans (hb2.mono hsz))
       have HO2 := Lib.hid (own_below HO.out hb2)
       have hz2 := HB2.out.size
       have RN : Hid (Rd (w2.alloc (.cells #[.string N0] 9)) (w2.heap.size + 1) 1 (some ⟨w2.heap.size, 0, none⟩) 1 [.string N0]) := Rd.newAt w2 _ _ _ rfl (size := 1) (m := 1) rfl (by simp [maxLen])
       clear hb2
       go_wp2_with (at_builtin; refine wpList_app _ (by rfl) (.tmp 53) (.tmp 56) 67 (by rfl) w1.heap.size 9 i0 _ 1 16 Tryz.underlying67 hi0 hy0 hy1 hy2 rfl (by decide) (.slice Ao (3 + 0) co) (3 + 0) ([.string W0, .string T1, .string G2] ++ NS.take 0) (by rfl) (HO2.out.alloc _) (w2.heap.size + 1) (some ⟨w2.heap.size, 0, none⟩) 1 1 [.string N0] (by rfl) RN.out (by intro u hu; simp at hu; subst hu; rfl) (by unfold maxLen; omega) (by omega) (by rw [World.size_alloc]; omega) ?_)
       intro v5 w5 hown5 hg5 _
       have HO5 : Hid (w5.ownsRow w1.heap.size 9 1 v5 (3 + 1) ([.string W0, .string T1, .string G2] ++ NS.take 1)) := by
        show World.ownsRow _ _ _ _ _ _ _
        have e : NS.take 1 = NS.take 0 ++ [.string N0] := by rw [← HNS.out]; rfl
        rw [e, ← List.append_assoc]; exact hown5
       have HB5 := Lib.hid (below_own (HB2.out.alloc hz2 _) (HO2.out.alloc _) hg5 (Nat.le_refl _) (by rw [World.size_alloc]; omega))
       clear hown5 hg5 RN
       go_wp2
       go_roundw
       case rel => exact ⟨1, ⟨by omega, rfl⟩, HO5.out, HB5.out⟩
       case measure => simp [intOf]
      ·go_wp2_with fail
       refine (num_any a1 o9 o10 _ HTr.out).mono ?_
       rintro e w2 ⟨rfl, hb2⟩
       rw [HN1.out]
       have HB2 := Lib.hid (HB.out.trans (hb2.mono hsz))
       have HO2 := Lib.hid (own_below HO.out hb2)
       have hz2 := HB2.out.size
       have RN : Hid (Rd (w2.alloc (.cells #[.string N1] 9)) (w2.heap.size + 1) 1 (some ⟨w2.heap.size, 0, none⟩) 1 [.string N1]) := Rd.newAt w2 _ _ _ rfl (size := 1) (m := 1) rfl (by simp [maxLen])
       clear hb2
       go_wp2_with (at_builtin; refine wpList_app _ (by rfl) (.tmp 53) (.tmp 56) 67 (by rfl) w1.heap.size 9 i0 _ 1 16 Tryz.underlying67 hi0 hy0 hy1 hy2 rfl (by decide) (.slice Ao (3 + 1) co) (3 + 1) ([.string W0, .string T1, .string G2] ++ NS.take 1) (by rfl) (HO2.out.alloc _) (w2.heap.size + 1) (some ⟨w2.heap.size, 0, none⟩) 1 1 [.string N1] (by rfl) RN.out (by intro u hu; simp at hu; subst hu; rfl) (by unfold maxLen; omega) (by omega) (by rw [World.size_alloc]; omega) ?_)
       intro v5 w5 hown5 hg5 _
       have HO5 : Hid (w5.ownsRow w1.heap.size 9 1 v5 (3 + 2) ([.string W0, .string T1, .string G2] ++ NS.take 2)) := by
        show World.ownsRow _ _ _ _ _ _ _
        have e : NS.take 2 = NS.take 1 ++ [.string N1] := by rw [← HNS.out]; rfl
        rw [e, ← List.append_assoc]; exact hown5
       have HB5 := Lib.hid (below_own (HB2.out.alloc hz2 _) (HO2.out.alloc _) hg5 (Nat.le_refl _) (by rw [World.size_alloc]; omega))
       clear hown5 hg5 RN
       go_wp2
       go_roundw
       case rel => exact ⟨2, ⟨by omega, rfl⟩, HO5.out, HB5.out⟩
       case measure => simp [intOf]
      ·go_wp2_with fail
       refine (num_any a2 o11 o12 _ HTr.out).mono ?_
       rintro e w2 ⟨rfl, hb2⟩
       rw [HN2.out]
       have HB2 := Lib.hid (HB.out.trans (hb2.mono hsz))
       have HO2 := Lib.hid (own_below HO.out hb2)
       have hz2 := HB2.out.size
       have RN : Hid (Rd (w2.alloc (.cells #[.string N2] 9)) (w2.heap.size + 1) 1 (some ⟨w2.heap.size, 0, none⟩) 1 [.string N2]) := Rd.newAt w2 _ _ _ rfl (size := 1) (m := 1) rfl (by simp [maxLen])
       clear hb2
       go_wp2_with (at_builtin; refine wpList_app _ (by rfl) (.tmp 53) (.tmp 56) 67 (by rfl) w1.heap.size 9 i0 _ 1 16 Tryz.underlying67 hi0 hy0 hy1 hy2 rfl (by decide) (.slice Ao (3 + 2) co) (3 + 2) ([.string W0, .string T1, .string G2] ++ NS.take 2) (by rfl) (HO2.out.alloc _) (w2.heap.size + 1) (some ⟨w2.heap.size, 0, none⟩) 1 1 [.string N2] (by rfl) RN.out (by intro u hu; simp at hu; subst hu; rfl) (by unfold maxLen; omega) (by omega) (by rw [World.size_alloc]; omega) ?_)
       intro v5 w5 hown5 hg5 _
       have HO5 : Hid (w5.ownsRow w1.heap.size 9 1 v5 (3 + 3) ([.string W0, .string T1, .string G2] ++ NS.take 3)) := by
        show World.ownsRow _ _ _ _ _ _ _
        have e : NS.take 3 = NS.take 2 ++ [.string N2] := by rw [← HNS.out]; rfl
        rw [e, ← List.append_assoc]; exact hown5
       have HB5 := Lib.hid (below_own (HB2.out.alloc hz2 _) (HO2.out.alloc _) hg5 (Nat.le_refl _) (by rw [World.size_alloc]; omega))
       clear hown5 hg5 RN
       go_wp2
       go_roundw
       case rel => exact ⟨3, ⟨by omega, rfl⟩, HO5.out, HB5.out⟩
       case measure => simp [intOf]
      ·go_wp2_with fail
       refine (num_any a3 o13 o14 _ HTr.out).mono ?_
       rintro e w2 ⟨rfl, hb2⟩
       rw [HN3.out]
       have HB2 := Lib.hid (HB.out.trans (hb2.mono hsz))
       have HO2 := Lib.hid (own_below HO.out hb2)
       have hz2 := HB2.out.size
       have RN : Hid (Rd (w2.alloc (.cells #[.string N3] 9)) (w2.heap.size + 1) 1 (some ⟨w2.heap.size, 0, none⟩) 1 [.string N3]) := Rd.newAt w2 _ _ _ rfl (size := 1) (m := 1) rfl (by simp [maxLen])
       clear hb2
       go_wp2_with (at_builtin; refine wpList_app _ (by rfl) (.tmp 53) (.tmp 56) 67 (by rfl) w1.heap.size 9 i0 _ 1 16 Tryz.underlying67 hi0 hy0 hy1 hy2 rfl (by decide) (.slice Ao (3 + 3) co) (3 + 3) ([.string W0, .string T1, .string G2] ++ NS.take 3) (by rfl) (HO2.out.alloc _) (w2.heap.size + 1) (some ⟨w2.heap.size, 0, none⟩) 1 1 [.string N3] (by rfl) RN.out (by intro u hu; simp at hu; subst hu; rfl) (by unfold maxLen; omega) (by omega) (by rw [World.size_alloc]; omega) ?_)
       intro v5 w5 hown5 hg5 _
       have HO5 : Hid (w5.ownsRow w1.heap.size 9 1 v5 (3 + 4) ([.string W0, .string T1, .string G2] ++ NS.take 4)) := by
        show World.ownsRow _ _ _ _ _ _ _
        have e : NS.take 4 = NS.take 3 ++ [.string N3] := by rw [← HNS.out]; rfl
        rw [e, ← List.append_assoc]; exact hown5
       have HB5 := Lib.hid (below_own (HB2.out.alloc hz2 _) (HO2.out.alloc _) hg5 (Nat.le_refl _) (by rw [World.size_alloc]; omega))
       clear hown5 hg5 RN
       go_wp2
       go_roundw
       case rel => exact ⟨4, ⟨by omega, rfl⟩, HO5.out, HB5.out⟩
       case measure => simp [intOf]
      ·have BKr := Lib.hid (BK1.out.below HB.out hlt1)
       have y7 := BKr.out.cell 7
       have y8 := BKr.out.cell 8
       have y9 := BKr.out.cell 9
       rw [← HBXe.out] at y7 y8 y9
       simp at y7 y8 y9
       have d7 : wr.drew.cell? ⟨w.heap.size, 7, none⟩ = some (.int .i64 from_) := y7
       have d8 : wr.drew.cell? ⟨w.heap.size, 8, none⟩ = some (.int .i64 till) := y8
       have d9 : wr.drew.cell? ⟨w.heap.size, 9, none⟩ = some (.int .i64 steps) := y9
       have HTd : Hid (PowTab wr.drew) := HTr.out
       have HBd := Lib.hid HB.out.drew
       have HOd := Lib.hid HO.out.drew
       have hzd : w1.heap.size ≤ wr.drew.heap.size := hsz
       obtain ⟨F1, hF1⟩ : ∃ F1, str (Lib.itoa from_) = F1 := ⟨_, rfl⟩
       obtain ⟨F2, hF2⟩ : ∃ F2, str (Lib.itoa till) = F2 := ⟨_, rfl⟩
       obtain ⟨F3, hF3⟩ : ∃ F3, str (Lib.itoa steps) = F3 := ⟨_, rfl⟩
       have HF1 := Lib.hid hF1
       have HF2 := Lib.hid hF2
       have HF3 := Lib.hid hF3
       clear hF1 hF2 hF3
       go_wp2_with fail
       go_region_held3 (fun w' => w'.cell? ⟨w.heap.size, 7, none⟩ = some (.int .i64 from_) ∧ w'.cell? ⟨w.heap.size, 8, none⟩ = some (.int .i64 till) ∧ w'.cell? ⟨w.heap.size, 9, none⟩ = some (.int .i64 steps))
        (first | exact ⟨y7, y8, y9⟩ | exact ⟨d7, d8, d9⟩ | exact ⟨p7, p8, p9⟩ | exact ⟨q7, q8, q9⟩ | exact ⟨r7, r8, r9⟩ | exact ⟨s7, s8, s9⟩ | go_keep)
        (first
        |
        (go_at_call 32
         refine (itoa_any from_ o15 o16 _ HTd.out).mono ?_
         rintro e wa ⟨rfl, hbwa⟩
         rw [HF1.out]
         have HBwa := Lib.hid (HBd.out.trans (hbwa.mono hzd))
         have HOwa := Lib.hid (own_below HOd.out hbwa)
         have hzwa := HBwa.out.size
         have HTwa := Lib.hid (PowTab.below HTd.out hbwa)
         have p7 := (hbwa.cell (p := ⟨w.heap.size, 7, none⟩) (World.block_lt_of_cell? _ _ d7)).trans d7
         have p8 := (hbwa.cell (p := ⟨w.heap.size, 8, none⟩) (World.block_lt_of_cell? _ _ d8)).trans d8
         have p9 := (hbwa.cell (p := ⟨w.heap.size, 9, none⟩) (World.block_lt_of_cell? _ _ d9)).trans d9
         clear hbwa)
        |
        (go_at_call 32
         refine (itoa_any till o17 o18 _ HTwa.out).mono ?_
         rintro e wb ⟨rfl, hbwb⟩
         rw [HF2.out]
         have HBwb := Lib.hid (HBwa.out.trans (hbwb.mono hzwa))
         have HOwb := Lib.hid (own_below HOwa.out hbwb)
         have hzwb := HBwb.out.size
         have HTwb := Lib.hid (PowTab.below HTwa.out hbwb)
         have q7 := (hbwb.cell (p := ⟨w.heap.size, 7, none⟩) (World.block_lt_of_cell? _ _ p7)).trans p7
         have q8 := (hbwb.cell (p := ⟨w.heap.size, 8, none⟩) (World.block_lt_of_cell? _ _ p8)).trans p8
         have q9 := (hbwb.cell (p := ⟨w.heap.size, 9, none⟩) (World.block_lt_of_cell? _ _ p9)).trans p9
         clear hbwb)
        |
        (go_at_call 32
         refine (itoa_any steps o19 o20 _ HTwb.out).mono ?_
         rintro e wc ⟨rfl, hbwc⟩
         rw [HF3.out]
         have HBwc := Lib.hid (HBwb.out.trans (hbwc.mono hzwb))
         have HOwc := Lib.hid (own_below HOwb.out hbwc)
         have hzwc := HBwc.out.size
         have HTwc := Lib.hid (PowTab.below HTwb.out hbwc)
         have r7 := (hbwc.cell (p := ⟨w.heap.size, 7, none⟩) (World.block_lt_of_cell? _ _ q7)).trans q7
         have r8 := (hbwc.cell (p := ⟨w.heap.size, 8, none⟩) (World.block_lt_of_cell? _ _ q8)).trans q8
         have r9 := (hbwc.cell (p := ⟨w.heap.size, 9, none⟩) (World.block_lt_of_cell? _ _ q9)).trans q9
         clear hbwc)
        |
         (refine step_app _ (by rfl) _ _ _ (by rfl) w1.heap.size 9 i0 _ 1 16 Tryz.underlying67 hi0 hy0 hy1 hy2 rfl (by decide) (.slice Ao (3 + 4) co) (3 + 4) ([.string W0, .string T1, .string G2] ++ NS.take 4) (by rfl) (HOwc.out.alloc _) (wc.heap.size + 1) (some ⟨wc.heap.size, 0, none⟩) 5 5 [.string ⟨#[58]⟩, .string F1, .string F2, .string F3, .string ⟨#[61]⟩] (by rfl) (Rd.newAt wc #[.string ⟨#[58]⟩, .string F1, .string F2, .string F3, .string ⟨#[61]⟩] _ _ rfl (size := 1) (m := 5) rfl (by simp [maxLen])) (by intro u hu; simp at hu; rcases hu with rfl | rfl | rfl | rfl | rfl <;> rfl) (by unfold maxLen; omega) (by omega) (by rw [World.size_alloc]; omega) ?_
          intro v5 w5 hown5 hg5 _
          have hb5 := below_own (HBwc.out.alloc hzwc (.cells #[.string ⟨#[58]⟩, .string F1, .string F2, .string F3, .string ⟨#[61]⟩] 9)) (HOwc.out.alloc (.cells #[.string ⟨#[58]⟩, .string F1, .string F2, .string F3, .string ⟨#[61]⟩] 9)) hg5 (Nat.le_refl _) (by rw [World.size_alloc]; omega)
          have s7 := (hb5.cell (p := ⟨w.heap.size, 7, none⟩) hlt1).trans x7
          have s8 := (hb5.cell (p := ⟨w.heap.size, 8, none⟩) hlt1).trans x8
          have s9 := (hb5.cell (p := ⟨w.heap.size, 9, none⟩) hlt1).trans x9))
       have HO5 := Lib.hid hown5
       have HB5 := Lib.hid (below_own (HBwc.out.alloc hzwc (.cells #[.string ⟨#[58]⟩, .string F1, .string F2, .string F3, .string ⟨#[61]⟩] 9)) (HOwc.out.alloc (.cells #[.string ⟨#[58]⟩, .string F1, .string F2, .string F3, .string ⟨#[61]⟩] 9)) hg5 (Nat.le_refl _) (by rw [World.size_alloc]; omega))
       obtain ⟨A5, c5, hv5, _, _⟩ := Rd.of_own_cap hown5
       subst hv5
       have hz5 := HB5.out.size
       have BK5 := Lib.hid (BK1.out.below HB5.out hlt1)
       have u10 := BK5.out.cell 10
       have u11 := BK5.out.cell 11
       have u12 := BK5.out.cell 12
       rw [← HBXe.out] at u10 u11 u12
       simp at u10 u11 u12
       have HT5 : Hid (PowTab w5) := HT.out.below (HB1.out.trans (HB5.out.mono hz1'))
       clear hown5 hg5 ix0 ix1 ix2 ix3 hb5 s7 s8 s9 p7 p8 p9 q7 q8 q9 r7 r8 r9 d7 d8 d9 y7 y8 y9
       cases done
       ·
        have RN : Hid (Rd (w5.alloc (.cells #[.string ⟨#[45]⟩] 9)) (w5.heap.size + 1) 1 (some ⟨w5.heap.size, 0, none⟩) 1 [.string ⟨#[45]⟩]) := Rd.newAt w5 _ _ _ rfl (size := 1) (m := 1) rfl (by simp [maxLen])
        go_wp2_with (at_builtin; refine wpList_app _ (by rfl) (.tmp 79) (.tmp 80) 67 (by rfl) w1.heap.size 9 i0 _ 1 16 Tryz.underlying67 hi0 hy0 hy1 hy2 rfl (by decide) (.slice A5 (3 + 4 + 5) c5) (3 + 4 + 5) ([.string W0, .string T1, .string G2] ++ NS.take 4 ++ [.string ⟨#[58]⟩, .string F1, .string F2, .string F3, .string ⟨#[61]⟩]) (by rfl) (HO5.out.alloc _) (w5.heap.size + 1) (some ⟨w5.heap.size, 0, none⟩) 1 1 [.string ⟨#[45]⟩] (by rfl) RN.out (by intro u hu; simp at hu; subst hu; rfl) (by unfold maxLen; omega) (by omega) (by rw [World.size_alloc]; omega) ?_)
        intro v6 w6 hown6 hg6 _
        obtain ⟨A6, c6, hv6, hc6, hr6⟩ := Rd.of_own_cap hown6
        subst hv6
        have HB6 := Lib.hid (HB1.out.trans ((below_own (HB5.out.alloc hz5 _) (HO5.out.alloc _) hg6 (Nat.le_refl _) (by rw [World.size_alloc]; omega)).mono hz1'))
        have HR6 : Hid (RdS w6 w6.heap.size A6 (3 + 4 + 5 + 1) [W0, T1, G2, N0, N1, N2, N3, ⟨#[58]⟩, F1, F2, F3, ⟨#[61]⟩, ⟨#[45]⟩]) := by
         show Rd _ _ _ _ _ _
         rw [← HNS.out] at hr6
         exact hr6
        have HPt : Hid ([W0, T1, G2, N0, N1, N2, N3, ⟨#[58]⟩, F1, F2, F3, ⟨#[61]⟩, ⟨#[45]⟩].map (·.data.toList) = partsP names ⟨who, tag, prog, a0, a1, a2, a3, from_, till, steps, false, code, val⟩) := by
         show _ = _
         simp only [List.map_cons, List.map_nil, partsP, ← HW0.out, ← HT1.out, ← HG2.out, ← HN0.out, ← HN1.out, ← HN2.out, ← HN3.out, ← HF1.out, ← HF2.out, ← HF3.out, str_list, Bool.false_eq_true, if_false]
        clear hown6 hg6 hr6 RN
        go_wp2_with fail
        refine (line_any [W0, T1, G2, N0, N1, N2, N3, ⟨#[58]⟩, F1, F2, F3, ⟨#[61]⟩, ⟨#[45]⟩] _ _ _ _ HR6.out (by omega) (by omega) hc6 (by rw [HPt.out]; exact Nat.le_trans HPl.out (by omega))).mono ?_
        rintro e w7 ⟨rfl, hb7⟩
        rw [HPt.out]
        have HB7 := Lib.hid (HB6.out.trans (hb7.mono HB6.out.size))
        clear hb7
        go_wp2
        go_ret
        exact ⟨rfl, HB7.out⟩
       ·obtain ⟨RS, hRS⟩ : ∃ RS, str (resultP code val) = RS := ⟨_, rfl⟩
        have HRS := Lib.hid hRS
        clear hRS
        go_wp2_with fail
        refine (result_any code val o21 o22 o23 o24 _ HT5.out).mono ?_
        rintro e w8 ⟨rfl, hb8⟩
        rw [HRS.out]
        have HO8 := Lib.hid (own_below HO5.out hb8)
        have HB8 := Lib.hid (HB5.out.trans (hb8.mono hz5))
        have hz8 := HB8.out.size
        clear hb8
        have RN : Hid (Rd (w8.alloc (.cells #[.string RS] 9)) (w8.heap.size + 1) 1 (some ⟨w8.heap.size, 0, none⟩) 1 [.string RS]) := Rd.newAt w8 _ _ _ rfl (size := 1) (m := 1) rfl (by simp [maxLen])
        go_wp2_with (at_builtin; refine wpList_app _ (by rfl) (.tmp 73) (.tmp 77) 67 (by rfl) w1.heap.size 9 i0 _ 1 16 Tryz.underlying67 hi0 hy0 hy1 hy2 rfl (by decide) (.slice A5 (3 + 4 + 5) c5) (3 + 4 + 5) ([.string W0, .string T1, .string G2] ++ NS.take 4 ++ [.string ⟨#[58]⟩, .string F1, .string F2, .string F3, .string ⟨#[61]⟩]) (by rfl) (HO8.out.alloc _) (w8.heap.size + 1) (some ⟨w8.heap.size, 0, none⟩) 1 1 [.string RS] (by rfl) RN.out (by intro u hu; simp at hu; subst hu; rfl) (by unfold maxLen; omega) (by omega) (by rw [World.size_alloc]; omega) ?_)
        intro v6 w6 hown6 hg6 _
        obtain ⟨A6, c6, hv6, hc6, hr6⟩ := Rd.of_own_cap hown6
        subst hv6
        have HB6 := Lib.hid (HB1.out.trans ((below_own (HB8.out.alloc hz8 _) (HO8.out.alloc _) hg6 (Nat.le_refl _) (by rw [World.size_alloc]; omega)).mono hz1'))
        have HR6 : Hid (RdS w6 w6.heap.size A6 (3 + 4 + 5 + 1) [W0, T1, G2, N0, N1, N2, N3, ⟨#[58]⟩, F1, F2, F3, ⟨#[61]⟩, RS]) := by
         show Rd _ _ _ _ _ _
         rw [← HNS.out] at hr6
         exact hr6
        have HPt : Hid ([W0, T1, G2, N0, N1, N2, N3, ⟨#[58]⟩, F1, F2, F3, ⟨#[61]⟩, RS].map (·.data.toList) = partsP names ⟨who, tag, prog, a0, a1, a2, a3, from_, till, steps, true, code, val⟩) := by
         show _ = _
         simp only [List.map_cons, List.map_nil, partsP, ← HW0.out, ← HT1.out, ← HG2.out, ← HN0.out, ← HN1.out, ← HN2.out, ← HN3.out, ← HF1.out, ← HF2.out, ← HF3.out, str_list, if_true, ← HRS.out]
        clear hown6 hg6 hr6 RN
        go_wp2_with fail
        refine (line_any [W0, T1, G2, N0, N1, N2, N3, ⟨#[58]⟩, F1, F2, F3, ⟨#[61]⟩, RS] _ _ _ _ HR6.out (by omega) (by omega) hc6 (by rw [HPt.out]; exact Nat.le_trans HPl.out (by omega))).mono ?_
        rintro e w7 ⟨rfl, hb7⟩
        rw [HPt.out]
        have HB7 := Lib.hid (HB6.out.trans (hb7.mono HB6.out.size))
        clear hb7
        go_wp2
        go_ret
        exact ⟨rfl, HB7.out⟩
end Go.Proofs.YtiiaingepbkikaaGreatDoor
namespace Go.Proofs.YtiiaingepbkikaaGreatDoor
open Go.RowKit
set_option linter.unusedVariables false
abbrev RdU (w : World) (B : Nat) (A : Option Addr) (n : Nat) (l : List Int) : Prop := Rd w B 1 A n (l.map (Value.int .u64))
theorem Rd.u64Len {w : World} {B n : Nat} {A : Option Addr} {l : List Int} (h : RdU w B A n l) : l.length = n := by
 have := h.len; rw [List.length_map] at this; omega
def decV (u : Int) : Value := .string (str (dec u))
def EachPost (l : List Int) (w : World) (e : Ending) (w' : World) : Prop :=
 ∃ v, e = .returned v ∧ w'.ownsRow w.heap.size 9 1 v l.length (l.map decV) ∧ Below w.heap.size w w'
set_option maxRecDepth 100000 in
set_option maxHeartbeats 4000000 in
theorem each_any (l : List Int) (A : Option Addr) (n c : Nat) (w : World) (hr : RdU w w.heap.size A n l) (hok : ∀ x ∈ l, 0 ≤ x ∧ x ≤ 18446744073709551615) (h48 : n ≤ 1000000) (htab : PowTab w) :
 Calls Tryz.prog 36 #[.slice A n c, .func (.func 35) #[] #[]] w (EachPost l w) := by
 obtain ⟨i0, hi0, hy0, hy1, hy2⟩ := info_parts info_str
 have HR := Lib.hid hr
 have HLl := Lib.hid hr.u64Len
 have HK := Lib.hid hok
 have HT := Lib.hid htab
 clear hr hok htab
 go_enter Tryz.func36, Tryz.ntmps36
 go_wp2
 go_loopw [5, 7, 10] (fun out _x i wr => ∃ k : Nat, (k ≤ n ∧ i = .int .i64 k) ∧ wr.ownsRow w.heap.size 9 1 out k ((l.take k).map decV) ∧ Below w.heap.size w wr) (fun _ _ i _ => n - (intOf i).toNat)
 case atStart => exact ⟨0, ⟨by omega, rfl⟩, World.ownsRow_nil _ _ _ _, Below.refl _ _⟩
 case round =>
  obtain ⟨k, ⟨hk, rfl⟩, hown, hb⟩ := hrel
  have HB := Lib.hid hb
  have HO := Lib.hid hown
  have hsz := hb.size
  have HTr : Hid (PowTab wr) := HT.out.below hb
  obtain ⟨Ao, co, rfl, hco, _⟩ := Rd.of_own_cap hown
  clear hown hb
  by_cases hlt : k < n
  ·obtain ⟨x, hx⟩ : ∃ x, l[k]? = some x := ⟨_, List.getElem?_eq_getElem (by rw [HLl.out]; exact hlt)⟩
   obtain ⟨b, o, rfl, hbB, hcell⟩ := (HR.out.below HB.out).at_ (by omega)
   have q0 := hcell k _ (by rw [List.getElem?_map, hx]; rfl)
   have HTk : Hid ((l.take (k + 1)).map decV = (l.take k).map decV ++ [decV x]) := by show _ = _; rw [List.take_add_one, hx, List.map_append]; rfl
   obtain ⟨hx0, hx1⟩ := HK.out x (List.mem_of_getElem? hx)
   clear hcell hx
   obtain ⟨D, hD⟩ : ∃ D, str (dec x) = D := ⟨_, rfl⟩
   have HD := Lib.hid hD
   have HDv : Hid (decV x = .string D) := by show _ = _; rw [decV, hD]
   clear hD
   go_wp2_with fail
   refine (num_any x hx0 hx1 _ HTr.out).mono ?_
   rintro e w2 ⟨rfl, hb2⟩
   rw [HD.out]
   have HB2 := Lib.hid (HB.out.trans (hb2.mono hsz))
   have HO2 := Lib.hid (own_below HO.out hb2)
   have hz2 := HB2.out.size
   have RN : Hid (Rd (w2.alloc (.cells #[.string D] 9)) (w2.heap.size + 1) 1 (some ⟨w2.heap.size, 0, none⟩) 1 [.string D]) := Rd.newAt w2 _ _ _ rfl (size := 1) (m := 1) rfl (by simp [maxLen])
   clear hb2
   go_wp2_with (at_builtin; refine wpList_app _ (by rfl) (.tmp 14) (.tmp 18) 67 (by rfl) w.heap.size 9 i0 _ 1 16 Tryz.underlying67 hi0 hy0 hy1 hy2 rfl (by decide) (.slice Ao k co) k ((l.take k).map decV) (by rfl) (HO2.out.alloc _) (w2.heap.size + 1) (some ⟨w2.heap.size, 0, none⟩) 1 1 [.string D] (by rfl) RN.out (by intro u hu; simp at hu; subst hu; rfl) (by unfold maxLen; omega) (by omega) (by rw [World.size_alloc]; omega) ?_)
   intro v5 w5 hown5 hg5 _
   have HO5 : Hid (w5.ownsRow w.heap.size 9 1 v5 (k + 1) ((l.take (k + 1)).map decV)) := by
    show World.ownsRow _ _ _ _ _ _ _
    rw [HTk.out, HDv.out]
    first | exact hown5 | (rw [List.map_take]; exact hown5)
   have HB5 := Lib.hid (below_own (HB2.out.alloc hz2 _) (HO2.out.alloc _) hg5 (Nat.le_refl _) (by rw [World.size_alloc]; omega))
   clear hown5 hg5 RN
   go_wp2
   go_roundw
   case rel => exact ⟨k + 1, ⟨by omega, by go_num⟩, HO5.out, HB5.out⟩
   case measure => simp [intOf]; omega
  ·obtain rfl : n = k := by omega
   have HE : Hid (wr.ownsRow w.heap.size 9 1 (.slice Ao n co) l.length (l.map decV)) := by
    have h := HO.out
    rw [List.take_of_length_le (by rw [HLl.out]; exact Nat.le_refl _)] at h
    show World.ownsRow _ _ _ _ _ _ _
    rw [HLl.out]; exact h
   go_wp2
   go_ret
   exact ⟨_, rfl, HE.out, HB.out⟩
end Go.Proofs.YtiiaingepbkikaaGreatDoor
