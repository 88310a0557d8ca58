/-
  Chapter 25: a call as a line: contract of tumblerref25.Record.
-/
import Derived.Test.YthklmcpjlpaklaaDoorRepR
import Derived.Deep.RegionHeld3
import Derived.Deep.RegionLaw
import Derived.Deep.Cut
import Derived.Deep.CutRange
import Derived.Deep.DeepCutAuto
namespace Go.Proofs.YthklmcpjlpaklaaDoor
open Go.RowKit
set_option linter.unusedVariables false

theorem str_cut {P : Program} {t : TypeId} (ht : P.underlying t = some .string) {s W : ByteArray} {a z : Nat} (h1 : a ≤ z) (h2 : z ≤ s.size) (hW : s.extract a z = W) (w : World) :
    (Instr.slice t (.string s) (some (.int .i64 a)) (some (.int .i64 z)) none).run P w = .ok (.string W) w := by
  rw [run_slice_string w t s .i64 .i64 a z ht (by omega) (by omega) (by omega), Int.toNat_natCast, Int.toNat_natCast, hW]
def letters : ByteArray := ⟨#[97, 98, 99, 100, 101, 102, 103, 104]⟩
theorem letter_cut : ∀ k : Fin 8, (letters.extract k.val (k.val + 1)).data.toList = [UInt8.ofNat (97 + k.val)] := by decide +kernel
theorem whoP_cut {who : Int} (h0 : 0 ≤ who) (h8 : who < 8) (W : World) :
    (Instr.slice 9 (.string ⟨#[97, 98, 99, 100, 101, 102, 103, 104]⟩) (some (.int .i64 who)) (some (.int .i64 (who + 1))) none).run Tryd.prog W = .ok (.string (str (whoP who))) W := by
  obtain ⟨k, rfl⟩ : ∃ k : Nat, who = (k : Int) := ⟨who.toNat, by omega⟩
  have hk : k < 8 := by omega
  have h := letter_cut ⟨k, hk⟩
  simp only at h
  have e : letters.extract k (k + 1) = str (whoP k) := by
    rw [whoP, if_pos ⟨h0, h8⟩, Int.toNat_natCast, ← h, str_of]
  have := str_cut (P := Tryd.prog) (t := 9) Tryd.underlying9 (s := letters) (a := k) (z := k + 1) (by omega) (by show k + 1 ≤ 8; omega) e W
  exact this

theorem cat_any {P : Program} {a b X : ByteArray} (h : a.size + b.size ≤ 100000) (hX : a ++ b = X) (w : World) : (Op.stringOp .add a b).run P w = .ok (.string X) w := by
  rw [← hX, run_string_add_sum w a b (by omega)]
theorem of_list {s : ByteArray} {l : Bys} (h : s.data.toList = l) : s = str l := by rw [← h, str_of]
theorem app_list (a b : ByteArray) : (a ++ b).data.toList = a.data.toList ++ b.data.toList := by rw [ByteArray.data_append, Array.toList_append]

set_option maxRecDepth 100000 in
set_option maxHeartbeats 8000000 in
theorem rrecord_any (names : List ByteArray) (A : Option Addr) (n c : Nat) (r : Rec) (w : World) (hN : RdS w w.heap.size A n names) (hok : r.Ok) (hn : n ≤ 1000) (hsz : ∀ x ∈ names, x.size ≤ 1000) :
    Calls Tryd.prog 8 #[.slice A n c, r.v] w fun e w' => e = .returned (.string (str (recordP names r))) ∧ Below w.heap.size w w' := by
  have HNs := Lib.hid hN
  have HNl := hN.strLen
  have HSz := Lib.hid hsz
  obtain ⟨who, tag, prog, a0, a1, a2, a3, from_, till, steps, done, code, val⟩ := r
  obtain ⟨⟨o1, o2⟩, ⟨o3, o4⟩, ⟨o5, o6⟩, ⟨o7, o8⟩, ⟨o9, o10⟩, ⟨o11, o12⟩, ⟨o13, o14⟩, ⟨o15, o16⟩, ⟨o17, o18⟩, ⟨o19, o20⟩, ⟨o21, o22⟩, ⟨o23, o24⟩⟩ := hok
  simp only at o1 o2 o3 o4 o5 o6 o7 o8 o9 o10 o11 o12 o13 o14 o15 o16 o17 o18 o19 o20 o21 o22 o23 o24
  clear hN hsz
  simp only [Rec.v]
  obtain ⟨BX, hBX⟩ : ∃ BX : Array Value, #[.int .i64 who, .int .i64 tag, .int .i64 prog, .int .u64 a0, .int .u64 a1, .int .u64 a2, .int .u64 a3, .int .i64 from_, .int .i64 till, .int .i64 steps, .bool done, .int .i64 code, .int .u64 val] = BX := ⟨_, rfl⟩
  obtain ⟨W1, hW1⟩ : ∃ W1, w.alloc (.cells BX 35) = W1 := ⟨_, rfl⟩
  have HBK : Hid (Bk W1 w.heap.size 35 BX) := by rw [← hW1]; exact Bk.new w _ _
  have HB1 : Hid (Below w.heap.size w W1) := by rw [← hW1]; exact (Below.refl _ _).alloc (Nat.le_refl _) _
  have HBXe := Lib.hid hBX
  have HWe := Lib.hid hW1
  clear hBX hW1
  obtain ⟨W0, hW0⟩ : ∃ W0, str (whoP who) = W0 := ⟨_, rfl⟩
  have hW0s : W0.size ≤ 1 := by rw [← hW0, str_size]; exact whoP_len who
  have HW0 := Lib.hid hW0
  have HW3 : Hid ((0 ≤ who ∧ who < 8 ∧ ∀ W, (Instr.slice 9 (.string ⟨#[97, 98, 99, 100, 101, 102, 103, 104]⟩) (some (.int .i64 who)) (some (.int .i64 (who + 1))) none).run Tryd.prog W = .ok (.string W0) W) ∨ ((who < 0 ∨ (0 ≤ who ∧ 8 ≤ who)) ∧ W0 = ⟨#[45]⟩)) := by
    by_cases h : 0 ≤ who ∧ who < 8
    · exact .inl ⟨h.1, h.2, fun W => by rw [← hW0]; exact whoP_cut h.1 h.2 W⟩
    · exact .inr ⟨by omega, by rw [← hW0, whoP, if_neg h]; rfl⟩
  clear hW0
  go_enter Tryd.func8, Tryd.ntmps8
  go_upto_region 3 with fail
  rw [HBXe.out, HWe.out]
  have x0 := HBK.out.cell 0
  have x1 := HBK.out.cell 1
  rw [← HBXe.out] at x0 x1
  simp at x0 x1
  go_cut [15] from 8 (fun v wx => v = .bool (decide (0 ≤ who ∧ who < 8)) ∧ wx = W1)
  case first =>
    by_cases ha : 0 ≤ who
    · by_cases hb : who < 8
      · have hd : decide (0 ≤ who ∧ who < 8) = true := decide_eq_true ⟨ha, hb⟩
        go_wp2
        go_meet
        exact ⟨by first | rfl | (rw [hd]), rfl⟩
      · have hd : decide (0 ≤ who ∧ who < 8) = false := decide_eq_false (fun h => hb h.2)
        have hb' : decide (who < 8) = false := decide_eq_false hb
        go_wp2
        go_meet
        exact ⟨by first | rfl | (rw [hd]), rfl⟩
    · have hd : decide (0 ≤ who ∧ who < 8) = false := decide_eq_false (fun h => ha h.1)
      have ha' : decide (0 ≤ who) = false := decide_eq_false ha
      go_wp2
      go_meet
      exact ⟨by first | rfl | (rw [hd]), rfl⟩
  case rest =>
    obtain ⟨rfl, rfl⟩ := hcut
    go_upto_if 15 with fail
    go_cut [6] from 8 (fun v6 wx => v6 = .string W0 ∧ wx = wc)
    case first =>
      rcases HW3.out with ⟨ha, hb, hcut2⟩ | ⟨hx, rfl⟩
      · have hd : decide (0 ≤ who ∧ who < 8) = true := decide_eq_true ⟨ha, hb⟩
        go_wp2
        go_meet
        exact ⟨rfl, rfl⟩
      · have hd : decide (0 ≤ who ∧ who < 8) = false := decide_eq_false (fun h => by omega)
        go_wp2
        go_meet
        exact ⟨rfl, rfl⟩
    case rest =>
      obtain ⟨rfl, rfl⟩ := hcut
      clear HW3
      have hlt0 := HBK.out.lt
      go_wp2_with fail
      refine (rint_any tag o3 o4 _).mono ?_
      rintro e w2 ⟨rfl, hb2⟩
      obtain ⟨I, hI⟩ : ∃ I, str (Lib.itoa tag) = I := ⟨_, rfl⟩
      rw [hI]
      have hIs : I.size ≤ 21 := by rw [← hI, str_size]; exact itoa_len tag o3 o4
      have HI := Lib.hid hI
      have HB2 := Lib.hid (HB1.out.trans (hb2.mono HB1.out.size))
      have BK2 := Lib.hid (HBK.out.below hb2 hlt0)
      have hz2 := HB2.out.size
      have hlt2 := BK2.out.lt
      clear hb2 hI x0 x1
      have x2 := BK2.out.cell 2
      have x7 := BK2.out.cell 7
      have x8 := BK2.out.cell 8
      have x9 := BK2.out.cell 9
      rw [← HBXe.out] at x2 x7 x8 x9
      simp at x2 x7 x8 x9
      obtain ⟨G, hG⟩ : ∃ G, str (progP names prog) = G := ⟨_, rfl⟩
      have hGs : G.size ≤ 1000 := by rw [← hG, str_size]; exact progP_len names prog HSz.out
      have HG := Lib.hid hG
      have HG3 : Hid ((0 ≤ prog ∧ prog < (n : Int) ∧ names[prog.toNat]? = some G) ∨ ((prog < 0 ∨ (0 ≤ prog ∧ (n : Int) ≤ prog)) ∧ G = ⟨#[45]⟩)) := by
        by_cases h : 0 ≤ prog ∧ prog < (names.length : Int)
        · refine .inl ⟨h.1, by omega, ?_⟩
          rw [← hG, progP, if_pos h, str_of, List.getD_eq_getElem?_getD, List.getElem?_eq_getElem (by omega)]
          rfl
        · exact .inr ⟨by omega, by rw [← hG, progP, if_neg h]; rfl⟩
      clear hG
      obtain ⟨S1, hS1⟩ : ∃ S1, W0 ++ ⟨#[32]⟩ ++ I ++ ⟨#[32]⟩ ++ G = S1 := ⟨_, rfl⟩
      have hS1s : S1.size ≤ 1030 := by
        have e1 : (⟨#[32]⟩ : ByteArray).size = 1 := rfl
        rw [← hS1]
        simp only [ByteArray.size_append, e1]
        omega
      have HS1 := Lib.hid hS1
      clear hS1
      go_upto_region 6 with fail
      go_cut [41] from 8 (fun v wx => v = .bool (decide (0 ≤ prog ∧ prog < (n : Int))) ∧ wx = w2)
      case first =>
        by_cases ha : 0 ≤ prog
        · by_cases hb : prog < (n : Int)
          · have hd : decide (0 ≤ prog ∧ prog < (n : Int)) = true := decide_eq_true ⟨ha, hb⟩
            go_wp2
            go_meet
            exact ⟨by first | rfl | (rw [hd]), rfl⟩
          · have hd : decide (0 ≤ prog ∧ prog < (n : Int)) = false := decide_eq_false (fun h => hb h.2)
            have hb' : decide (prog < (n : Int)) = false := decide_eq_false hb
            go_wp2
            go_meet
            exact ⟨by first | rfl | (rw [hd]), rfl⟩
        · have hd : decide (0 ≤ prog ∧ prog < (n : Int)) = false := decide_eq_false (fun h => ha h.1)
          have ha' : decide (0 ≤ prog) = false := decide_eq_false ha
          go_wp2
          go_meet
          exact ⟨by first | rfl | (rw [hd]), rfl⟩
      case rest =>
        obtain ⟨rfl, rfl⟩ := hcut
        go_upto_if 41 with fail
        go_cut [6] from 8 (fun v6 wx => v6 = .string S1 ∧ wx = wc)
        case first =>
          rcases HG3.out with ⟨ha, hb, hget⟩ | ⟨hx, rfl⟩
          · have hd : decide (0 ≤ prog ∧ prog < (n : Int)) = true := decide_eq_true ⟨ha, hb⟩
            obtain ⟨k, rfl⟩ : ∃ k : Nat, prog = (k : Int) := ⟨prog.toNat, by omega⟩
            rw [Int.toNat_natCast] at hget
            obtain ⟨b, o, rfl, hbB, hcell⟩ := (HNs.out.below HB2.out).at_ (by omega)
            have q0 := hcell k _ (by rw [List.getElem?_map, hget]; rfl)
            clear hcell hget
            go_wp2
            go_meet
            exact ⟨congrArg Value.string HS1.out, rfl⟩
          · have hd : decide (0 ≤ prog ∧ prog < (n : Int)) = false := decide_eq_false (fun h => by omega)
            go_wp2
            go_meet
            exact ⟨congrArg Value.string HS1.out, rfl⟩
        case rest =>
          obtain ⟨rfl, rfl⟩ := hcut
          clear HG3
          obtain ⟨TL, hTL⟩ : ∃ TL : Nat → Bys, ∀ k, (([dec a0, dec a1, dec a2, dec a3].take k).map ([32] ++ ·)).flatten = TL k := ⟨_, fun _ => rfl⟩
          have T0 : Hid (TL 0 = []) := by show _ = _; rw [← hTL]; rfl
          have T1 : Hid (TL 1 = TL 0 ++ ([32] ++ dec a0)) := by show _ = _; rw [← hTL, ← hTL]; simp
          have T2 : Hid (TL 2 = TL 1 ++ ([32] ++ dec a1)) := by show _ = _; rw [← hTL, ← hTL]; simp
          have T3 : Hid (TL 3 = TL 2 ++ ([32] ++ dec a2)) := by show _ = _; rw [← hTL, ← hTL]; simp
          have T4 : Hid (TL 4 = TL 3 ++ ([32] ++ dec a3)) := by show _ = _; rw [← hTL, ← hTL]; simp
          clear hTL
          go_wp2
          go_loopw [6, 7] (fun sv i wr => ∃ (k : Nat) (S : ByteArray), (k ≤ 4 ∧ i = .int .i64 k ∧ sv = .string S ∧ S.size ≤ 1030 + 21 * k) ∧ Hid (S.data.toList = S1.data.toList ++ TL k) ∧ Below wc.heap.size wc wr) (fun _ i _ => 4 - (intOf i).toNat)
          case atStart => exact ⟨0, S1, ⟨by omega, rfl, rfl, by omega⟩, by show _ = _; rw [T0.out, List.append_nil], Below.refl _ _⟩
          case round =>
            obtain ⟨k, S, ⟨hk, rfl, rfl, hSs⟩, HSl, hb⟩ := hrel
            have HB := Lib.hid hb
            have hsz := hb.size
            have BKr := Lib.hid (BK2.out.below hb hlt2)
            have y3 := BKr.out.cell 3
            have y4 := BKr.out.cell 4
            have y5 := BKr.out.cell 5
            have y6 := BKr.out.cell 6
            rw [← HBXe.out] at y3 y4 y5 y6
            simp at y3 y4 y5 y6
            clear hb
            have hk4 : k = 0 ∨ k = 1 ∨ k = 2 ∨ k = 3 ∨ k = 4 := by omega
            rcases hk4 with rfl | rfl | rfl | rfl | rfl
            · obtain ⟨D, hD⟩ : ∃ D, str (dec a0) = D := ⟨_, rfl⟩
              have hDs : D.size ≤ 20 := by rw [← hD, str_size]; exact dec_len a0 o8
              have HD := Lib.hid hD
              clear hD
              go_wp2_with fail
              refine (rnum_any a0 o7 o8 _).mono ?_
              rintro e w3 ⟨rfl, hb3⟩
              rw [HD.out]
              have HB3 := Lib.hid (HB.out.trans (hb3.mono hsz))
              clear hb3
              have e32 : (⟨#[32]⟩ : ByteArray).size = 1 := rfl
              have HN1 : Hid ((S ++ ⟨#[32]⟩ ++ D).size ≤ 1030 + 21 * 1) := by show _ ≤ _; simp only [ByteArray.size_append, e32]; omega
              have HN2 : Hid ((S ++ ⟨#[32]⟩ ++ D).data.toList = S1.data.toList ++ TL 1) := by
                show _ = _
                rw [app_list, app_list, HSl.out, T1.out, ← HD.out, str_list]
                simp
              clear e32
              go_wp2
              go_roundw
              case rel => exact ⟨1, _, ⟨by omega, rfl, rfl, HN1.out⟩, HN2, HB3.out⟩
              case measure => simp [intOf]
            · obtain ⟨D, hD⟩ : ∃ D, str (dec a1) = D := ⟨_, rfl⟩
              have hDs : D.size ≤ 20 := by rw [← hD, str_size]; exact dec_len a1 o10
              have HD := Lib.hid hD
              clear hD
              go_wp2_with fail
              refine (rnum_any a1 o9 o10 _).mono ?_
              rintro e w3 ⟨rfl, hb3⟩
              rw [HD.out]
              have HB3 := Lib.hid (HB.out.trans (hb3.mono hsz))
              clear hb3
              have e32 : (⟨#[32]⟩ : ByteArray).size = 1 := rfl
              have HN1 : Hid ((S ++ ⟨#[32]⟩ ++ D).size ≤ 1030 + 21 * 2) := by show _ ≤ _; simp only [ByteArray.size_append, e32]; omega
              have HN2 : Hid ((S ++ ⟨#[32]⟩ ++ D).data.toList = S1.data.toList ++ TL 2) := by
                show _ = _
                rw [app_list, app_list, HSl.out, T2.out, ← HD.out, str_list]
                simp
              clear e32
              go_wp2
              go_roundw
              case rel => exact ⟨2, _, ⟨by omega, rfl, rfl, HN1.out⟩, HN2, HB3.out⟩
              case measure => simp [intOf]
            · obtain ⟨D, hD⟩ : ∃ D, str (dec a2) = D := ⟨_, rfl⟩
              have hDs : D.size ≤ 20 := by rw [← hD, str_size]; exact dec_len a2 o12
              have HD := Lib.hid hD
              clear hD
              go_wp2_with fail
              refine (rnum_any a2 o11 o12 _).mono ?_
              rintro e w3 ⟨rfl, hb3⟩
              rw [HD.out]
              have HB3 := Lib.hid (HB.out.trans (hb3.mono hsz))
              clear hb3
              have e32 : (⟨#[32]⟩ : ByteArray).size = 1 := rfl
              have HN1 : Hid ((S ++ ⟨#[32]⟩ ++ D).size ≤ 1030 + 21 * 3) := by show _ ≤ _; simp only [ByteArray.size_append, e32]; omega
              have HN2 : Hid ((S ++ ⟨#[32]⟩ ++ D).data.toList = S1.data.toList ++ TL 3) := by
                show _ = _
                rw [app_list, app_list, HSl.out, T3.out, ← HD.out, str_list]
                simp
              clear e32
              go_wp2
              go_roundw
              case rel => exact ⟨3, _, ⟨by omega, rfl, rfl, HN1.out⟩, HN2, HB3.out⟩
              case measure => simp [intOf]
            · obtain ⟨D, hD⟩ : ∃ D, str (dec a3) = D := ⟨_, rfl⟩
              have hDs : D.size ≤ 20 := by rw [← hD, str_size]; exact dec_len a3 o14
              have HD := Lib.hid hD
              clear hD
              go_wp2_with fail
              refine (rnum_any a3 o13 o14 _).mono ?_
              rintro e w3 ⟨rfl, hb3⟩
              rw [HD.out]
              have HB3 := Lib.hid (HB.out.trans (hb3.mono hsz))
              clear hb3
              have e32 : (⟨#[32]⟩ : ByteArray).size = 1 := rfl
              have HN1 : Hid ((S ++ ⟨#[32]⟩ ++ D).size ≤ 1030 + 21 * 4) := by show _ ≤ _; simp only [ByteArray.size_append, e32]; omega
              have HN2 : Hid ((S ++ ⟨#[32]⟩ ++ D).data.toList = S1.data.toList ++ TL 4) := by
                show _ = _
                rw [app_list, app_list, HSl.out, T4.out, ← HD.out, str_list]
                simp
              clear e32
              go_wp2
              go_roundw
              case rel => exact ⟨4, _, ⟨by omega, rfl, rfl, HN1.out⟩, HN2, HB3.out⟩
              case measure => simp [intOf]
            · have z7 := BKr.out.cell 7
              have z8 := BKr.out.cell 8
              have z9 := BKr.out.cell 9
              rw [← HBXe.out] at z7 z8 z9
              simp at z7 z8 z9
              have d7 : wr.drew.cell? ⟨w.heap.size, 7, none⟩ = some (.int .i64 from_) := z7
              have d8 : wr.drew.cell? ⟨w.heap.size, 8, none⟩ = some (.int .i64 till) := z8
              have d9 : wr.drew.cell? ⟨w.heap.size, 9, none⟩ = some (.int .i64 steps) := z9
              have HBd := Lib.hid HB.out.drew
              have hzd : wc.heap.size ≤ wr.drew.heap.size := hsz
              obtain ⟨F1, hF1⟩ : ∃ F1, str (Lib.itoa from_) = F1 := ⟨_, rfl⟩
              obtain ⟨F2, hF2⟩ : ∃ F2, str (Lib.itoa till) = F2 := ⟨_, rfl⟩
              obtain ⟨F3, hF3⟩ : ∃ F3, str (Lib.itoa steps) = F3 := ⟨_, rfl⟩
              have hF1s : F1.size ≤ 21 := by rw [← hF1, str_size]; exact itoa_len from_ o15 o16
              have hF2s : F2.size ≤ 21 := by rw [← hF2, str_size]; exact itoa_len till o17 o18
              have hF3s : F3.size ≤ 21 := by rw [← hF3, str_size]; exact itoa_len steps o19 o20
              have HF1 := Lib.hid hF1
              have HF2 := Lib.hid hF2
              have HF3 := Lib.hid hF3
              clear hF1 hF2 hF3 y3 y4 y5 y6
              obtain ⟨A1, hA1⟩ : ∃ A1, S ++ ⟨#[32, 58, 32]⟩ = A1 := ⟨_, rfl⟩
              have hA1s : A1.size ≤ 1230 := by rw [← hA1, ByteArray.size_append, (show (⟨#[32, 58, 32]⟩ : ByteArray).size = 3 from rfl)]; omega
              have hc1 := fun W => cat_any (P := Tryd.prog) (by rw [(show (⟨#[32, 58, 32]⟩ : ByteArray).size = 3 from rfl)]; omega) hA1 W
              obtain ⟨A2, hA2⟩ : ∃ A2, A1 ++ F1 = A2 := ⟨_, rfl⟩
              have hA2s : A2.size ≤ 1260 := by rw [← hA2, ByteArray.size_append]; omega
              have hc2 := fun W => cat_any (P := Tryd.prog) (by omega) hA2 W
              obtain ⟨A3, hA3⟩ : ∃ A3, A2 ++ ⟨#[32]⟩ = A3 := ⟨_, rfl⟩
              have hA3s : A3.size ≤ 1290 := by rw [← hA3, ByteArray.size_append, (show (⟨#[32]⟩ : ByteArray).size = 1 from rfl)]; omega
              have hc3 := fun W => cat_any (P := Tryd.prog) (by rw [(show (⟨#[32]⟩ : ByteArray).size = 1 from rfl)]; omega) hA3 W
              obtain ⟨A4, hA4⟩ : ∃ A4, A3 ++ F2 = A4 := ⟨_, rfl⟩
              have hA4s : A4.size ≤ 1320 := by rw [← hA4, ByteArray.size_append]; omega
              have hc4 := fun W => cat_any (P := Tryd.prog) (by omega) hA4 W
              obtain ⟨A5, hA5⟩ : ∃ A5, A4 ++ ⟨#[32]⟩ = A5 := ⟨_, rfl⟩
              have hA5s : A5.size ≤ 1350 := by rw [← hA5, ByteArray.size_append, (show (⟨#[32]⟩ : ByteArray).size = 1 from rfl)]; omega
              have hc5 := fun W => cat_any (P := Tryd.prog) (by rw [(show (⟨#[32]⟩ : ByteArray).size = 1 from rfl)]; omega) hA5 W
              obtain ⟨A6, hA6⟩ : ∃ A6, A5 ++ F3 = A6 := ⟨_, rfl⟩
              have hA6s : A6.size ≤ 1380 := by rw [← hA6, ByteArray.size_append]; omega
              have hc6 := fun W => cat_any (P := Tryd.prog) (by omega) hA6 W
              obtain ⟨A7, hA7⟩ : ∃ A7, A6 ++ ⟨#[32, 61, 32]⟩ = A7 := ⟨_, rfl⟩
              have hA7s : A7.size ≤ 1410 := by rw [← hA7, ByteArray.size_append, (show (⟨#[32, 61, 32]⟩ : ByteArray).size = 3 from rfl)]; omega
              have hc7 := fun W => cat_any (P := Tryd.prog) (by rw [(show (⟨#[32, 61, 32]⟩ : ByteArray).size = 3 from rfl)]; omega) hA7 W
              have HA7 : Hid (S ++ ⟨#[32, 58, 32]⟩ ++ F1 ++ ⟨#[32]⟩ ++ F2 ++ ⟨#[32]⟩ ++ F3 ++ ⟨#[32, 61, 32]⟩ = A7) := by show _ = _; rw [hA1, hA2, hA3, hA4, hA5, hA6, hA7]
              clear hA1 hA2 hA3 hA4 hA5 hA6 hA7
              have HOk := Lib.hid (And.intro o21 (And.intro o22 (And.intro o23 o24)))
              have HOs := Lib.hid (And.intro o15 (And.intro o16 (And.intro o17 (And.intro o18 (And.intro o19 o20)))))
              have Hz := Lib.hid (And.intro hz2 (And.intro hlt2 (And.intro hsz hA7s)))
              go_wp2_with fail
              clear o1 o2 o3 o4 o5 o6 o7 o8 o9 o10 o11 o12 o13 o14 o15 o16 o17 o18 o19 o20 o21 o22 o23 o24 x2 x7 x8 x9 hW0s hIs hGs hS1s hSs hk hF1s hF2s hF3s hA1s hA2s hA3s hA4s hA5s hA6s hA7s hlt0 hz2 HNl hn
              go_region_held3 (fun w' => w'.cell? ⟨w.heap.size, 7, none⟩ = some (.int .i64 from_) ∧ w'.cell? ⟨w.heap.size, 8, none⟩ = some (.int .i64 till) ∧ w'.cell? ⟨w.heap.size, 9, none⟩ = some (.int .i64 steps))
                (first | exact ⟨d7, d8, d9⟩ | exact ⟨z7, z8, z9⟩ | go_keep)
                (first
                  | (go_at_call 24
                     refine (rint_any _ (by first | exact HOs.out.1 | exact HOs.out.2.2.1 | exact HOs.out.2.2.2.2.1) (by first | exact HOs.out.2.1 | exact HOs.out.2.2.2.1 | exact HOs.out.2.2.2.2.2) _).mono ?_
                     rintro e wn ⟨rfl, hbn⟩
                     first | rw [HF1.out] | rw [HF2.out] | rw [HF3.out]
                     have HBd := Lib.hid (HBd.out.trans (hbn.mono hzd))
                     have hzd := HBd.out.size
                     have d7 := (hbn.cell (p := ⟨w.heap.size, 7, none⟩) (World.block_lt_of_cell? _ _ d7)).trans d7
                     have d8 := (hbn.cell (p := ⟨w.heap.size, 8, none⟩) (World.block_lt_of_cell? _ _ d8)).trans d8
                     have d9 := (hbn.cell (p := ⟨w.heap.size, 9, none⟩) (World.block_lt_of_cell? _ _ d9)).trans d9
                     clear hbn))
              have BK5 := Lib.hid (BK2.out.below HBd.out Hz.out.2.1)
              have v10 := BK5.out.cell 10
              have v11 := BK5.out.cell 11
              have v12 := BK5.out.cell 12
              rw [← HBXe.out] at v10 v11 v12
              simp at v10 v11 v12
              have HW5 : Hid (Below w.heap.size w wn) := HB2.out.trans (HBd.out.mono Hz.out.1)
              have hA7s := Hz.out.2.2.2
              have HL7 : Hid (A7.data.toList = whoP who ++ ([32] ++ (Lib.itoa tag ++ ([32] ++ (progP names prog ++ ([32] ++ (dec a0 ++ ([32] ++ (dec a1 ++ ([32] ++ (dec a2 ++ ([32] ++ (dec a3 ++ ([32, 58, 32] ++ (Lib.itoa from_ ++ ([32] ++ (Lib.itoa till ++ ([32] ++ (Lib.itoa steps ++ [32, 61, 32]))))))))))))))))))) := by
                show _ = _
                rw [← HA7.out]
                simp only [app_list, HSl.out, T4.out, T3.out, T2.out, T1.out, T0.out, ← HS1.out, ← HW0.out, ← HI.out, ← HG.out, ← HF1.out, ← HF2.out, ← HF3.out, str_list, List.append_assoc, List.nil_append]
              clear hc1 hc2 hc3 hc4 hc5 hc6 hc7 d7 d8 d9
              have HRec : ∀ dn R, (if dn then resultP code val else [45]) = R → Hid (A7.data.toList ++ (R ++ [10]) = recordP names ⟨who, tag, prog, a0, a1, a2, a3, from_, till, steps, dn, code, val⟩) := by
                intro dn R hR
                show _ = _
                rw [HL7.out, recordP, lineP, partsP, Lib.join_cons]
                simp only [hR, Lib.joinTail, List.map_cons, List.map_nil, List.flatten_cons, List.flatten_nil, List.append_assoc, List.append_nil, List.cons_append, List.nil_append]
              cases done
              · have HRf := HRec false [45] rfl
                clear HRec
                go_wp2
                go_ret
                refine ⟨?_, HW5.out⟩
                rw [← HRf.out, ← of_list (s := A7 ++ ⟨#[45, 10]⟩) (by rw [app_list]; rfl)]
                rfl
              · have HRf := HRec true (resultP code val) rfl
                clear HRec
                obtain ⟨RS, hRS⟩ : ∃ RS, str (resultP code val) = RS := ⟨_, rfl⟩
                have hRSs : RS.size ≤ 27 := by rw [← hRS, str_size]; exact resultP_len code val HOk.out.1 HOk.out.2.1 HOk.out.2.2.2
                have HRS := Lib.hid hRS
                clear hRS
                go_wp2_with fail
                refine (rresult_any code val HOk.out.1 HOk.out.2.1 HOk.out.2.2.1 HOk.out.2.2.2 _).mono ?_
                rintro e w8 ⟨rfl, hb8⟩
                rw [HRS.out]
                have HB8 := Lib.hid (HW5.out.trans (hb8.mono HW5.out.size))
                clear hb8
                go_wp2
                go_ret
                refine ⟨?_, HB8.out⟩
                rw [← HRf.out, ← of_list (s := A7 ++ RS ++ ⟨#[10]⟩) (by rw [app_list, app_list, ← HRS.out, str_list, List.append_assoc])]
                rfl
end Go.Proofs.YthklmcpjlpaklaaDoor
