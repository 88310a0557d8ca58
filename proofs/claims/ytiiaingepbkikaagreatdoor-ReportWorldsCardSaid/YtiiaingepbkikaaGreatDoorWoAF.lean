import Derived.Test.YtiiaingepbkikaaGreatDoorWoAE
namespace Go.Proofs.YtiiaingepbkikaaGreatDoor
open Go.RowKit
set_option linter.unusedVariables false
set_option maxRecDepth 100000 in
set_option maxHeartbeats 4000000 in
theorem rthing_none (root : Int) (w : World) (hr0 : -9223372036854775808 ≤ root) (hr1 : root ≤ 9223372036854775807) :
 Calls Tryz.prog 30 #[.int .i64 root, .agg #[.bool false, .int .u64 0, .slice none 0 0, .bool false, .int .u64 0, .slice none 0 0, .bool false, .int .u64 0, .slice none 0 0]] w fun e w' => e = .returned (.string ⟨#[]⟩) ∧ Below w.heap.size w w' := by
 obtain ⟨BX, hBX⟩ : ∃ BX : Array Value, #[.bool false, .int .u64 0, .slice none 0 0, .bool false, .int .u64 0, .slice none 0 0, .bool false, .int .u64 0, .slice none 0 0] = BX := ⟨_, rfl⟩
 obtain ⟨W1, hW1⟩ : ∃ W1, w.alloc (.cells BX 42) = W1 := ⟨_, rfl⟩
 have HBK : Hid (Bk W1 w.heap.size 42 BX) := by rw [← hW1]; exact Bk.new w _ _
 have HB1 : Hid (Below w.heap.size w W1) := by rw [← hW1]; exact (Below.refl _ _).alloc (Nat.le_refl _) _
 have HBXe := Lib.hid hBX
 have HWe := Lib.hid hW1
 clear hBX hW1
 go_enter Tryz.func30, Tryz.ntmps30
 go_wp2_with fail
 rw [HBXe.out, HWe.out]
 refine (rint_any root hr0 hr1 _).mono ?_
 rintro e w2 ⟨rfl, hb2⟩
 have HB2 := Lib.hid (HB1.out.trans (hb2.mono HB1.out.size))
 have BK2 := Lib.hid (HBK.out.below hb2 HBK.out.lt)
 clear hb2
 have x0 := BK2.out.cell 0
 have x3 := BK2.out.cell 3
 have x6 := BK2.out.cell 6
 rw [← HBXe.out] at x0 x3 x6
 simp at x0 x3 x6
 go_wp2
 go_ret
 exact ⟨rfl, HB2.out⟩
set_option maxRecDepth 100000 in
set_option maxHeartbeats 8000000 in
theorem rthing_queue (root cap : Int) (l : List Int) (A : Option Addr) (n c : Nat) (w : World) (hr : RdU w w.heap.size A n l)
 (hr0 : -9223372036854775808 ≤ root) (hr1 : root ≤ 9223372036854775807) (hc0 : 0 ≤ cap) (hc1 : cap ≤ 18446744073709551615) (hok : ∀ x ∈ l, 0 ≤ x ∧ x ≤ 18446744073709551615) (h48 : n ≤ 1000) :
 Calls Tryz.prog 30 #[.int .i64 root, .agg #[.bool true, .int .u64 cap, .slice A n c, .bool false, .int .u64 0, .slice none 0 0, .bool false, .int .u64 0, .slice none 0 0]] w fun e w' => e = .returned (.string (str (thingP root [113, 117, 101, 117, 101] cap (l.map dec)))) ∧ Below w.heap.size w w' := by
 have HR := Lib.hid hr
 have HLl := Lib.hid hr.u64Len
 have HK := Lib.hid hok
 clear hr hok
 obtain ⟨BX, hBX⟩ : ∃ BX : Array Value, #[.bool true, .int .u64 cap, .slice A n c, .bool false, .int .u64 0, .slice none 0 0, .bool false, .int .u64 0, .slice none 0 0] = BX := ⟨_, rfl⟩
 obtain ⟨W1, hW1⟩ : ∃ W1, w.alloc (.cells BX 42) = W1 := ⟨_, rfl⟩
 have HBK : Hid (Bk W1 w.heap.size 42 BX) := by rw [← hW1]; exact Bk.new w _ _
 have HB1 : Hid (Below w.heap.size w W1) := by rw [← hW1]; exact (Below.refl _ _).alloc (Nat.le_refl _) _
 have HBXe := Lib.hid hBX
 have HWe := Lib.hid hW1
 clear hBX hW1
 go_enter Tryz.func30, Tryz.ntmps30
 go_wp2_with fail
 rw [HBXe.out, HWe.out]
 refine (rint_any root hr0 hr1 _).mono ?_
 rintro e w2 ⟨rfl, hb2⟩
 obtain ⟨I, hI⟩ : ∃ I, str (Lib.itoa root) = I := ⟨_, rfl⟩
 rw [hI]
 have hIs : I.size ≤ 21 := by rw [← hI, str_size]; exact itoa_len root hr0 hr1
 have HI := Lib.hid hI
 have HB2 := Lib.hid (HB1.out.trans (hb2.mono HB1.out.size))
 have BK2 := Lib.hid (HBK.out.below hb2 HBK.out.lt)
 have hz2 := HB2.out.size
 have hlt2 := BK2.out.lt
 clear hb2 hI
 have x0 := BK2.out.cell 0
 have xc := BK2.out.cell 1
 rw [← HBXe.out] at x0 xc
 simp at x0 xc
 obtain ⟨C, hC⟩ : ∃ C, str (dec cap) = C := ⟨_, rfl⟩
 have hCs : C.size ≤ 20 := by rw [← hC, str_size]; exact dec_len cap hc1
 have HC := Lib.hid hC
 clear hC
 go_wp2_with fail
 refine (rnum_any cap hc0 hc1 _).mono ?_
 rintro e w3 ⟨rfl, hb3⟩
 rw [HC.out]
 have HB3 := Lib.hid (HB2.out.trans (hb3.mono hz2))
 have BK3 := Lib.hid (BK2.out.below hb3 hlt2)
 have hlt3 := BK3.out.lt
 have hz3 := HB3.out.size
 clear hb3 x0 xc
 have xl := BK3.out.cell 2
 rw [← HBXe.out] at xl
 simp at xl
 have eW : (⟨#[32, 113, 117, 101, 117, 101, 32]⟩ : ByteArray).size = 7 := rfl
 have e58 : (⟨#[32, 58]⟩ : ByteArray).size = 2 := rfl
 have hS0s : Hid ((I ++ ⟨#[32, 113, 117, 101, 117, 101, 32]⟩ ++ C ++ ⟨#[32, 58]⟩).size ≤ 100 + 21 * 0) := by show _ ≤ _; simp only [ByteArray.size_append, eW, e58]; omega
 have hS0l : Hid ((I ++ ⟨#[32, 113, 117, 101, 117, 101, 32]⟩ ++ C ++ ⟨#[32, 58]⟩).data.toList = Lib.itoa root ++ ([32, 113, 117, 101, 117, 101, 32] ++ (dec cap ++ ([32, 58] ++ Lib.joinTail [32] ((l.take 0).map dec))))) := by
  show _ = _
  rw [app_list, app_list, app_list, ← HI.out, ← HC.out, str_list, str_list]
  simp [Lib.joinTail]
 clear eW e58
 go_wp2
 go_loopw [5, 6] (fun sv i wr => ∃ (k : Nat) (S : ByteArray), (k ≤ n ∧ i = .int .i64 k ∧ sv = .string S ∧ S.size ≤ 100 + 21 * k) ∧ Hid (S.data.toList = Lib.itoa root ++ ([32, 113, 117, 101, 117, 101, 32] ++ (dec cap ++ ([32, 58] ++ Lib.joinTail [32] ((l.take k).map dec))))) ∧ Below w3.heap.size w3 wr) (fun _ i _ => n - (intOf i).toNat)
 case atStart => exact ⟨0, _, ⟨by omega, rfl, rfl, hS0s.out⟩, hS0l, Below.refl _ _⟩
 case round =>
  obtain ⟨k, S, ⟨hk, rfl, rfl, hSs⟩, HSl, hb⟩ := hrel
  have HB := Lib.hid hb
  have hsz := hb.size
  have BKr := Lib.hid (BK3.out.below hb hlt3)
  have yl := BKr.out.cell 2
  rw [← HBXe.out] at yl
  simp at yl
  have HBr : Hid (Below w.heap.size w wr) := HB3.out.trans (hb.mono hz3)
  clear hb xl hS0s hS0l
  by_cases hlt : k < n
  ·obtain ⟨x, hx⟩ : ∃ x, l[k]? = some x := ⟨_, List.getElem?_eq_getElem (by rw [HLl.out]; exact hlt)⟩
   obtain ⟨b, o, hA, hbB, hcell⟩ := (HR.out.below HBr.out).at_ (by omega)
   subst hA
   have HTk : Hid (Lib.joinTail [32] ((l.take (k + 1)).map dec) = Lib.joinTail [32] ((l.take k).map dec) ++ ([32] ++ dec x)) := by
    show _ = _
    rw [List.take_add_one, hx]
    simp [Lib.joinTail]
   have HXo := Lib.hid (HK.out x (List.mem_of_getElem? hx))
   have q0 : wr.cell? ⟨b, o + k, none⟩ = some (.int .u64 x) := hcell k _ (by rw [List.getElem?_map, hx]; rfl)
   obtain ⟨D, hD⟩ : ∃ D, str (dec x) = D := ⟨_, rfl⟩
   have hDs : D.size ≤ 20 := by rw [← hD, str_size]; exact dec_len x HXo.out.2
   have HD := Lib.hid hD
   clear hcell hx hD
   go_wp2_with fail
   refine (rnum_any x HXo.out.1 HXo.out.2 _).mono ?_
   rintro e w5 ⟨rfl, hb5⟩
   rw [HD.out]
   have HB5 := Lib.hid (HB.out.trans (hb5.mono hsz))
   clear hb5
   have e32 : (⟨#[32]⟩ : ByteArray).size = 1 := rfl
   have HN1 : Hid ((S ++ ⟨#[32]⟩ ++ D).size ≤ 100 + 21 * (k + 1)) := by show _ ≤ _; simp only [ByteArray.size_append, e32]; omega
   have HN2 : Hid ((S ++ ⟨#[32]⟩ ++ D).data.toList = Lib.itoa root ++ ([32, 113, 117, 101, 117, 101, 32] ++ (dec cap ++ ([32, 58] ++ Lib.joinTail [32] ((l.take (k + 1)).map dec))))) := by
    show _ = _
    rw [app_list, app_list, HSl.out, HTk.out, ← HD.out, str_list]
    simp
   clear e32
   go_wp2
   go_roundw
   case rel => exact ⟨k + 1, _, ⟨by omega, by go_num, rfl, HN1.out⟩, HN2, HB5.out⟩
   case measure => simp [intOf]; omega
  ·obtain rfl : n = k := by omega
   have HF : Hid ((S ++ ⟨#[10]⟩) = str (thingP root [113, 117, 101, 117, 101] cap (l.map dec))) := by
    show _ = _
    apply of_list
    have hs := HSl.out
    rw [List.take_of_length_le (by rw [HLl.out]; exact Nat.le_refl _)] at hs
    rw [app_list, hs, thingP, lineP, Lib.join_cons]
    simp [Lib.joinTail]
   go_wp2
   go_ret
   exact ⟨by rw [← HF.out]; rfl, HBr.out⟩
set_option maxRecDepth 100000 in
set_option maxHeartbeats 8000000 in
theorem rthing_chain (root cap : Int) (l : List Int) (A : Option Addr) (n c : Nat) (w : World) (hr : RdU w w.heap.size A n l)
 (hr0 : -9223372036854775808 ≤ root) (hr1 : root ≤ 9223372036854775807) (hc0 : 0 ≤ cap) (hc1 : cap ≤ 18446744073709551615) (hok : ∀ x ∈ l, 0 ≤ x ∧ x ≤ 18446744073709551615) (h48 : n ≤ 1000) :
 Calls Tryz.prog 30 #[.int .i64 root, .agg #[.bool false, .int .u64 0, .slice none 0 0, .bool true, .int .u64 cap, .slice A n c, .bool false, .int .u64 0, .slice none 0 0]] w fun e w' => e = .returned (.string (str (thingP root [99, 104, 97, 105, 110] cap (l.map dec)))) ∧ Below w.heap.size w w' := by
 have HR := Lib.hid hr
 have HLl := Lib.hid hr.u64Len
 have HK := Lib.hid hok
 clear hr hok
 obtain ⟨BX, hBX⟩ : ∃ BX : Array Value, #[.bool false, .int .u64 0, .slice none 0 0, .bool true, .int .u64 cap, .slice A n c, .bool false, .int .u64 0, .slice none 0 0] = BX := ⟨_, rfl⟩
 obtain ⟨W1, hW1⟩ : ∃ W1, w.alloc (.cells BX 42) = W1 := ⟨_, rfl⟩
 have HBK : Hid (Bk W1 w.heap.size 42 BX) := by rw [← hW1]; exact Bk.new w _ _
 have HB1 : Hid (Below w.heap.size w W1) := by rw [← hW1]; exact (Below.refl _ _).alloc (Nat.le_refl _) _
 have HBXe := Lib.hid hBX
 have HWe := Lib.hid hW1
 clear hBX hW1
 go_enter Tryz.func30, Tryz.ntmps30
 go_wp2_with fail
 rw [HBXe.out, HWe.out]
 refine (rint_any root hr0 hr1 _).mono ?_
 rintro e w2 ⟨rfl, hb2⟩
 obtain ⟨I, hI⟩ : ∃ I, str (Lib.itoa root) = I := ⟨_, rfl⟩
 rw [hI]
 have hIs : I.size ≤ 21 := by rw [← hI, str_size]; exact itoa_len root hr0 hr1
 have HI := Lib.hid hI
 have HB2 := Lib.hid (HB1.out.trans (hb2.mono HB1.out.size))
 have BK2 := Lib.hid (HBK.out.below hb2 HBK.out.lt)
 have hz2 := HB2.out.size
 have hlt2 := BK2.out.lt
 clear hb2 hI
 have x0 := BK2.out.cell 0
 have x3 := BK2.out.cell 3
 have xc := BK2.out.cell 4
 rw [← HBXe.out] at x0 x3 xc
 simp at x0 x3 xc
 obtain ⟨C, hC⟩ : ∃ C, str (dec cap) = C := ⟨_, rfl⟩
 have hCs : C.size ≤ 20 := by rw [← hC, str_size]; exact dec_len cap hc1
 have HC := Lib.hid hC
 clear hC
 go_wp2_with fail
 refine (rnum_any cap hc0 hc1 _).mono ?_
 rintro e w3 ⟨rfl, hb3⟩
 rw [HC.out]
 have HB3 := Lib.hid (HB2.out.trans (hb3.mono hz2))
 have BK3 := Lib.hid (BK2.out.below hb3 hlt2)
 have hlt3 := BK3.out.lt
 have hz3 := HB3.out.size
 clear hb3 x0 x3 xc
 have xl := BK3.out.cell 5
 rw [← HBXe.out] at xl
 simp at xl
 have eW : (⟨#[32, 99, 104, 97, 105, 110, 32]⟩ : ByteArray).size = 7 := rfl
 have e58 : (⟨#[32, 58]⟩ : ByteArray).size = 2 := rfl
 have hS0s : Hid ((I ++ ⟨#[32, 99, 104, 97, 105, 110, 32]⟩ ++ C ++ ⟨#[32, 58]⟩).size ≤ 100 + 21 * 0) := by show _ ≤ _; simp only [ByteArray.size_append, eW, e58]; omega
 have hS0l : Hid ((I ++ ⟨#[32, 99, 104, 97, 105, 110, 32]⟩ ++ C ++ ⟨#[32, 58]⟩).data.toList = Lib.itoa root ++ ([32, 99, 104, 97, 105, 110, 32] ++ (dec cap ++ ([32, 58] ++ Lib.joinTail [32] ((l.take 0).map dec))))) := by
  show _ = _
  rw [app_list, app_list, app_list, ← HI.out, ← HC.out, str_list, str_list]
  simp [Lib.joinTail]
 clear eW e58
 go_wp2
 go_loopw [5, 7] (fun sv i wr => ∃ (k : Nat) (S : ByteArray), (k ≤ n ∧ i = .int .i64 k ∧ sv = .string S ∧ S.size ≤ 100 + 21 * k) ∧ Hid (S.data.toList = Lib.itoa root ++ ([32, 99, 104, 97, 105, 110, 32] ++ (dec cap ++ ([32, 58] ++ Lib.joinTail [32] ((l.take k).map dec))))) ∧ Below w3.heap.size w3 wr) (fun _ i _ => n - (intOf i).toNat)
 case atStart => exact ⟨0, _, ⟨by omega, rfl, rfl, hS0s.out⟩, hS0l, Below.refl _ _⟩
 case round =>
  obtain ⟨k, S, ⟨hk, rfl, rfl, hSs⟩, HSl, hb⟩ := hrel
  have HB := Lib.hid hb
  have hsz := hb.size
  have BKr := Lib.hid (BK3.out.below hb hlt3)
  have yl := BKr.out.cell 5
  rw [← HBXe.out] at yl
  simp at yl
  have HBr : Hid (Below w.heap.size w wr) := HB3.out.trans (hb.mono hz3)
  clear hb xl hS0s hS0l
  by_cases hlt : k < n
  ·obtain ⟨x, hx⟩ : ∃ x, l[k]? = some x := ⟨_, List.getElem?_eq_getElem (by rw [HLl.out]; exact hlt)⟩
   obtain ⟨b, o, hA, hbB, hcell⟩ := (HR.out.below HBr.out).at_ (by omega)
   subst hA
   have HTk : Hid (Lib.joinTail [32] ((l.take (k + 1)).map dec) = Lib.joinTail [32] ((l.take k).map dec) ++ ([32] ++ dec x)) := by
    show _ = _
    rw [List.take_add_one, hx]
    simp [Lib.joinTail]
   have HXo := Lib.hid (HK.out x (List.mem_of_getElem? hx))
   have q0 : wr.cell? ⟨b, o + k, none⟩ = some (.int .u64 x) := hcell k _ (by rw [List.getElem?_map, hx]; rfl)
   obtain ⟨D, hD⟩ : ∃ D, str (dec x) = D := ⟨_, rfl⟩
   have hDs : D.size ≤ 20 := by rw [← hD, str_size]; exact dec_len x HXo.out.2
   have HD := Lib.hid hD
   clear hcell hx hD
   go_wp2_with fail
   refine (rnum_any x HXo.out.1 HXo.out.2 _).mono ?_
   rintro e w5 ⟨rfl, hb5⟩
   rw [HD.out]
   have HB5 := Lib.hid (HB.out.trans (hb5.mono hsz))
   clear hb5
   have e32 : (⟨#[32]⟩ : ByteArray).size = 1 := rfl
   have HN1 : Hid ((S ++ ⟨#[32]⟩ ++ D).size ≤ 100 + 21 * (k + 1)) := by show _ ≤ _; simp only [ByteArray.size_append, e32]; omega
   have HN2 : Hid ((S ++ ⟨#[32]⟩ ++ D).data.toList = Lib.itoa root ++ ([32, 99, 104, 97, 105, 110, 32] ++ (dec cap ++ ([32, 58] ++ Lib.joinTail [32] ((l.take (k + 1)).map dec))))) := by
    show _ = _
    rw [app_list, app_list, HSl.out, HTk.out, ← HD.out, str_list]
    simp
   clear e32
   go_wp2
   go_roundw
   case rel => exact ⟨k + 1, _, ⟨by omega, by go_num, rfl, HN1.out⟩, HN2, HB5.out⟩
   case measure => simp [intOf]; omega
  ·obtain rfl : n = k := by omega
   have HF : Hid ((S ++ ⟨#[10]⟩) = str (thingP root [99, 104, 97, 105, 110] cap (l.map dec))) := by
    show _ = _
    apply of_list
    have hs := HSl.out
    rw [List.take_of_length_le (by rw [HLl.out]; exact Nat.le_refl _)] at hs
    rw [app_list, hs, thingP, lineP, Lib.join_cons]
    simp [Lib.joinTail]
   go_wp2
   go_ret
   exact ⟨by rw [← HF.out]; rfl, HBr.out⟩
set_option maxRecDepth 100000 in
set_option maxHeartbeats 8000000 in
theorem rthing_table (root cap : Int) (l : List (Int × Int)) (A : Option Addr) (n c : Nat) (w : World) (hr : RdP w w.heap.size A n l)
 (hr0 : -9223372036854775808 ≤ root) (hr1 : root ≤ 9223372036854775807) (hc0 : 0 ≤ cap) (hc1 : cap ≤ 18446744073709551615) (hok : ∀ x ∈ l, PairOk x) (h48 : n ≤ 1000) :
 Calls Tryz.prog 30 #[.int .i64 root, .agg #[.bool false, .int .u64 0, .slice none 0 0, .bool false, .int .u64 0, .slice none 0 0, .bool true, .int .u64 cap, .slice A n c]] w fun e w' => e = .returned (.string (str (thingP root [116, 97, 98, 108, 101] cap (l.map pairB)))) ∧ Below w.heap.size w w' := by
 have HR := Lib.hid hr
 have HLl := Lib.hid hr.pairLen
 have HK := Lib.hid hok
 clear hr hok
 obtain ⟨BX, hBX⟩ : ∃ BX : Array Value, #[.bool false, .int .u64 0, .slice none 0 0, .bool false, .int .u64 0, .slice none 0 0, .bool true, .int .u64 cap, .slice A n c] = BX := ⟨_, rfl⟩
 obtain ⟨W1, hW1⟩ : ∃ W1, w.alloc (.cells BX 42) = W1 := ⟨_, rfl⟩
 have HBK : Hid (Bk W1 w.heap.size 42 BX) := by rw [← hW1]; exact Bk.new w _ _
 have HB1 : Hid (Below w.heap.size w W1) := by rw [← hW1]; exact (Below.refl _ _).alloc (Nat.le_refl _) _
 have HBXe := Lib.hid hBX
 have HWe := Lib.hid hW1
 clear hBX hW1
 go_enter Tryz.func30, Tryz.ntmps30
 go_wp2_with fail
 rw [HBXe.out, HWe.out]
 refine (rint_any root hr0 hr1 _).mono ?_
 rintro e w2 ⟨rfl, hb2⟩
 obtain ⟨I, hI⟩ : ∃ I, str (Lib.itoa root) = I := ⟨_, rfl⟩
 rw [hI]
 have hIs : I.size ≤ 21 := by rw [← hI, str_size]; exact itoa_len root hr0 hr1
 have HI := Lib.hid hI
 have HB2 := Lib.hid (HB1.out.trans (hb2.mono HB1.out.size))
 have BK2 := Lib.hid (HBK.out.below hb2 HBK.out.lt)
 have hz2 := HB2.out.size
 have hlt2 := BK2.out.lt
 clear hb2 hI
 have x0 := BK2.out.cell 0
 have x3 := BK2.out.cell 3
 have x6 := BK2.out.cell 6
 have xc := BK2.out.cell 7
 rw [← HBXe.out] at x0 x3 x6 xc
 simp at x0 x3 x6 xc
 obtain ⟨C, hC⟩ : ∃ C, str (dec cap) = C := ⟨_, rfl⟩
 have hCs : C.size ≤ 20 := by rw [← hC, str_size]; exact dec_len cap hc1
 have HC := Lib.hid hC
 clear hC
 go_wp2_with fail
 refine (rnum_any cap hc0 hc1 _).mono ?_
 rintro e w3 ⟨rfl, hb3⟩
 rw [HC.out]
 have HB3 := Lib.hid (HB2.out.trans (hb3.mono hz2))
 have BK3 := Lib.hid (BK2.out.below hb3 hlt2)
 have hlt3 := BK3.out.lt
 have hz3 := HB3.out.size
 clear hb3 x0 x3 x6 xc
 have xl := BK3.out.cell 8
 rw [← HBXe.out] at xl
 simp at xl
 have eW : (⟨#[32, 116, 97, 98, 108, 101, 32]⟩ : ByteArray).size = 7 := rfl
 have e58 : (⟨#[32, 58]⟩ : ByteArray).size = 2 := rfl
 have hS0s : Hid ((I ++ ⟨#[32, 116, 97, 98, 108, 101, 32]⟩ ++ C ++ ⟨#[32, 58]⟩).size ≤ 100 + 42 * 0) := by show _ ≤ _; simp only [ByteArray.size_append, eW, e58]; omega
 have hS0l : Hid ((I ++ ⟨#[32, 116, 97, 98, 108, 101, 32]⟩ ++ C ++ ⟨#[32, 58]⟩).data.toList = Lib.itoa root ++ ([32, 116, 97, 98, 108, 101, 32] ++ (dec cap ++ ([32, 58] ++ Lib.joinTail [32] ((l.take 0).map pairB))))) := by
  show _ = _
  rw [app_list, app_list, app_list, ← HI.out, ← HC.out, str_list, str_list]
  simp [Lib.joinTail]
 clear eW e58
 go_wp2
 go_loopw [5, 8] (fun sv i wr => ∃ (k : Nat) (S : ByteArray), (k ≤ n ∧ i = .int .i64 k ∧ sv = .string S ∧ S.size ≤ 100 + 42 * k) ∧ Hid (S.data.toList = Lib.itoa root ++ ([32, 116, 97, 98, 108, 101, 32] ++ (dec cap ++ ([32, 58] ++ Lib.joinTail [32] ((l.take k).map pairB))))) ∧ Below w3.heap.size w3 wr) (fun _ i _ => n - (intOf i).toNat)
 case atStart => exact ⟨0, _, ⟨by omega, rfl, rfl, hS0s.out⟩, hS0l, Below.refl _ _⟩
 case round =>
  obtain ⟨k, S, ⟨hk, rfl, rfl, hSs⟩, HSl, hb⟩ := hrel
  have HB := Lib.hid hb
  have hsz := hb.size
  have BKr := Lib.hid (BK3.out.below hb hlt3)
  have yl := BKr.out.cell 8
  rw [← HBXe.out] at yl
  simp at yl
  have HBr : Hid (Below w.heap.size w wr) := HB3.out.trans (hb.mono hz3)
  clear hb xl hS0s hS0l
  by_cases hlt : k < n
  ·obtain ⟨x, hx⟩ : ∃ x, l[k]? = some x := ⟨_, List.getElem?_eq_getElem (by rw [HLl.out]; exact hlt)⟩
   obtain ⟨b, o, hA, hbB, hcell⟩ := (HR.out.below HBr.out).at_ (by omega)
   subst hA
   have HTk : Hid (Lib.joinTail [32] ((l.take (k + 1)).map pairB) = Lib.joinTail [32] ((l.take k).map pairB) ++ ([32] ++ pairB x)) := by
    show _ = _
    rw [List.take_add_one, hx]
    simp [Lib.joinTail]
   have HXo := Lib.hid (HK.out x (List.mem_of_getElem? hx))
   have q0 : wr.cell? ⟨b, o + k * 2, none⟩ = some (.int .u64 x.1) := hcell (k * 2) _ (pCells_at hx).1
   have q1 : wr.cell? ⟨b, o + k * 2 + 1, none⟩ = some (.int .u64 x.2) := hcell (k * 2 + 1) _ (pCells_at hx).2
   have p0 : wr.drew.cell? ⟨b, o + k * 2, none⟩ = some (.int .u64 x.1) := q0
   have p1 : wr.drew.cell? ⟨b, o + k * 2 + 1, none⟩ = some (.int .u64 x.2) := q1
   have pl : wr.drew.cell? ⟨w.heap.size, 8, none⟩ = some (.slice (some ⟨b, o, none⟩) n c) := yl
   obtain ⟨D0, hD0⟩ : ∃ D, str (dec x.1) = D := ⟨_, rfl⟩
   obtain ⟨D1, hD1⟩ : ∃ D, str (dec x.2) = D := ⟨_, rfl⟩
   have hDs0 : D0.size ≤ 20 := by rw [← hD0, str_size]; exact dec_len x.1 HXo.out.1.2
   have hDs1 : D1.size ≤ 20 := by rw [← hD1, str_size]; exact dec_len x.2 HXo.out.2.2
   have HD0 := Lib.hid hD0
   have HD1 := Lib.hid hD1
   clear hcell hx hD0 hD1
   have e32 : (⟨#[32]⟩ : ByteArray).size = 1 := rfl
   have e61 : (⟨#[61]⟩ : ByteArray).size = 1 := rfl
   obtain ⟨A1, hA1⟩ : ∃ A1, S ++ ⟨#[32]⟩ = A1 := ⟨_, rfl⟩
   have hA1s : A1.size = S.size + 1 := by rw [← hA1, ByteArray.size_append, e32]
   have hc1' := fun W => cat_any (P := Tryz.prog) (by rw [e32]; omega) hA1 W
   obtain ⟨A2, hA2⟩ : ∃ A2, A1 ++ D0 = A2 := ⟨_, rfl⟩
   have hA2s : A2.size = S.size + 1 + D0.size := by rw [← hA2, ByteArray.size_append, hA1s]
   have hc2' := fun W => cat_any (P := Tryz.prog) (by omega) hA2 W
   obtain ⟨A3, hA3⟩ : ∃ A3, A2 ++ ⟨#[61]⟩ = A3 := ⟨_, rfl⟩
   have hA3s : A3.size = S.size + 1 + D0.size + 1 := by rw [← hA3, ByteArray.size_append, hA2s, e61]
   have hc3' := fun W => cat_any (P := Tryz.prog) (by rw [e61]; omega) hA3 W
   obtain ⟨A4, hA4⟩ : ∃ A4, A3 ++ D1 = A4 := ⟨_, rfl⟩
   have hc4' := fun W => cat_any (P := Tryz.prog) (by omega) hA4 W
   have HN1 : Hid (A4.size ≤ 100 + 42 * (k + 1)) := by show _ ≤ _; rw [← hA4, ByteArray.size_append, hA3s]; omega
   have HN2 : Hid (A4.data.toList = Lib.itoa root ++ ([32, 116, 97, 98, 108, 101, 32] ++ (dec cap ++ ([32, 58] ++ Lib.joinTail [32] ((l.take (k + 1)).map pairB))))) := by
    show _ = _
    rw [← hA4, ← hA3, ← hA2, ← hA1, app_list, app_list, app_list, app_list, HSl.out, HTk.out, ← HD0.out, ← HD1.out, str_list, str_list]
    simp [pairB]
   have HBd := Lib.hid HB.out.drew
   have hzd : w3.heap.size ≤ wr.drew.heap.size := hsz
   clear e32 e61 hA1 hA2 hA3 hA4 hA1s hA2s hA3s hDs0 hDs1
   have Hs := Lib.hid hSs
   clear hSs
   go_wp2_with fail
   go_region_held3 (fun w' => w'.cell? ⟨w.heap.size, 8, none⟩ = some (.slice (some ⟨b, o, none⟩) n c) ∧ w'.cell? ⟨b, o + k * 2, none⟩ = some (.int .u64 x.1) ∧ w'.cell? ⟨b, o + k * 2 + 1, none⟩ = some (.int .u64 x.2))
    (first | exact ⟨pl, p0, p1⟩ | exact ⟨yl, q0, q1⟩ | go_keep)
    (first
      | (go_at_call 59
         refine (rnum_any _ (by first | exact HXo.out.1.1 | exact HXo.out.2.1) (by first | exact HXo.out.1.2 | exact HXo.out.2.2) _).mono ?_
         rintro e wn ⟨rfl, hbn⟩
         first | rw [HD0.out] | rw [HD1.out]
         have HBd := Lib.hid (HBd.out.trans (hbn.mono hzd))
         have hzd := HBd.out.size
         have pl := (hbn.cell (p := ⟨w.heap.size, 8, none⟩) (World.block_lt_of_cell? _ _ pl)).trans pl
         have p0 := (hbn.cell (p := ⟨b, o + k * 2, none⟩) (World.block_lt_of_cell? _ _ p0)).trans p0
         have p1 := (hbn.cell (p := ⟨b, o + k * 2 + 1, none⟩) (World.block_lt_of_cell? _ _ p1)).trans p1
         clear hbn))
   all_goals
    clear hc1' hc2' hc3' hc4' pl p0 p1 yl q0 q1
    go_wp2
    go_roundw
    case rel => exact ⟨k + 1, _, ⟨by omega, by go_num, rfl, HN1.out⟩, HN2, HBd.out⟩
    case measure => simp [intOf]; omega
  ·obtain rfl : n = k := by omega
   have HF : Hid ((S ++ ⟨#[10]⟩) = str (thingP root [116, 97, 98, 108, 101] cap (l.map pairB))) := by
    show _ = _
    apply of_list
    have hs := HSl.out
    rw [List.take_of_length_le (by rw [HLl.out]; exact Nat.le_refl _)] at hs
    rw [app_list, hs, thingP, lineP, Lib.join_cons]
    simp [Lib.joinTail]
   go_wp2
   go_ret
   exact ⟨by rw [← HF.out]; rfl, HBr.out⟩
end Go.Proofs.YtiiaingepbkikaaGreatDoor
namespace Go.Proofs.YtiiaingepbkikaaGreatDoor
def qNames : List Bys := [[110, 101, 119], [112, 117, 116], [116, 97, 107, 101], [112, 101, 101, 107], [115, 105, 122, 101], [100, 114, 111, 112]]
def cNames : List Bys := [[110, 101, 119], [97, 100, 100], [100, 101, 108], [104, 97, 115], [108, 101, 97, 115, 116], [115, 105, 122, 101], [100, 114, 111, 112]]
def tNames : List Bys := [[110, 101, 119], [112, 117, 116], [103, 101, 116], [100, 101, 108], [115, 105, 122, 101], [100, 114, 111, 112]]
def objNames : List Bys := qNames.map ([113, 117, 101, 117, 101, 46] ++ ·) ++ cNames.map ([99, 104, 97, 105, 110, 46] ++ ·) ++ tNames.map ([116, 97, 98, 108, 101, 46] ++ ·)
end Go.Proofs.YtiiaingepbkikaaGreatDoor
