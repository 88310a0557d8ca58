import Derived.Test.YtiiaingepbkikaaGreatDoorWoAL
import Derived.Test.YtiiaingepbkikaaGreatDoorWoAH
namespace Go.Proofs.YtiiaingepbkikaaGreatDoor
open Go.RowKit
set_option linter.unusedVariables false
set_option linter.unusedSimpArgs false
theorem c_contains (w : World) (g : Nat) (hg : g = w.heap.size) (x : ByteArray) (hx : x ∈ [(⟨#[110, 101, 119]⟩ : ByteArray), ⟨#[97, 100, 100]⟩, ⟨#[100, 101, 108]⟩, ⟨#[104, 97, 115]⟩, ⟨#[108, 101, 97, 115, 116]⟩, ⟨#[115, 105, 122, 101]⟩, ⟨#[100, 114, 111, 112]⟩]) :
 Calls Tryz.prog 65 #[.slice (some ⟨g, 0, none⟩) 7 7, .string x] (w.alloc (.cells #[.string ⟨#[110, 101, 119]⟩, .string ⟨#[97, 100, 100]⟩, .string ⟨#[100, 101, 108]⟩, .string ⟨#[104, 97, 115]⟩, .string ⟨#[108, 101, 97, 115, 116]⟩, .string ⟨#[115, 105, 122, 101]⟩, .string ⟨#[100, 114, 111, 112]⟩] 9)) fun e w' => e = .returned (.bool true) ∧ w' = w.alloc (.cells #[.string ⟨#[110, 101, 119]⟩, .string ⟨#[97, 100, 100]⟩, .string ⟨#[100, 101, 108]⟩, .string ⟨#[104, 97, 115]⟩, .string ⟨#[108, 101, 97, 115, 116]⟩, .string ⟨#[115, 105, 122, 101]⟩, .string ⟨#[100, 114, 111, 112]⟩] 9) := by
 subst hg
 refine (Tryz.slices_Contains_string w.heap.size 0 7 7 [(⟨#[110, 101, 119]⟩ : ByteArray), ⟨#[97, 100, 100]⟩, ⟨#[100, 101, 108]⟩, ⟨#[104, 97, 115]⟩, ⟨#[108, 101, 97, 115, 116]⟩, ⟨#[115, 105, 122, 101]⟩, ⟨#[100, 114, 111, 112]⟩] x _ (by decide) (by decide) (fun j hj => ?_)).mono ?_
 ·rw [World.cell?_alloc_at _ _ _ _ rfl]
  simp only [List.length_cons, List.length_nil] at hj
  have : j = 0 ∨ j = 1 ∨ j = 2 ∨ j = 3 ∨ j = 4 ∨ j = 5 ∨ j = 6 := by omega
  rcases this with rfl | rfl | rfl | rfl | rfl | rfl | rfl <;> rfl
 ·rintro e w' ⟨rfl, rfl⟩
  refine ⟨?_, rfl⟩
  rw [(Lib.containsS_iff _ _).2 (by simpa using hx)]
set_option maxRecDepth 100000 in
set_option maxHeartbeats 8000000 in
theorem cdoes_new (o : QO) (p : Value) (a : Int) (w : World) (hq : QIn w p o) (hok : COk 100 o) (ha : U64' a) :
 Calls Tryz.prog 45 #[p, .string ⟨#[110, 101, 119]⟩, .int .u64 a] w (DoesQ w (cP 0 a o)) := by
 have HQ := Lib.hid hq
 have HA := Lib.hid ha
 rcases o with _ | ⟨cap, l⟩
 ·have hp0 : p = .pointer none := hq
  subst hp0
  clear hq hok ha
  go_enter Tryz.func45, Tryz.ntmps45
  go_wp2
  have tb := two_blocks w #[.int .i64 0, .int .u64 0] #[.int .u64 a, .slice none 0 0] 47 110
  refine bodyPost_ret (results_tc rfl _ _ w.heap.size 47 _ _ (by rfl) tb.1 Tryz.underlying47 rfl info_res) rfl ?_
  exact ⟨_, _, rfl, ⟨w.heap.size + 1, none, 0, 0, rfl, ⟨Nat.le_refl _, fun _ => rfl⟩, tb.2.2.2, tb.2.1.cell 0, tb.2.1.cell 1, Rd.nil _ _ _ _, InT.none _ _⟩, ⟨_, rfl⟩, ⟨_, _, rfl⟩, tb.2.2.1⟩
 ·obtain ⟨b, A, n, c, hp0, hc, hb, h0, h1, hr, _⟩ := hq
  subst hp0
  have HR := Lib.hid hr
  have HC := Lib.hid hc
  have HL := Lib.hid hr.u64Len
  obtain ⟨⟨hc0, hc1⟩, hok2, hl, hup⟩ := hok
  have HM := Lib.hid hok2
  have hn : n ≤ 100 := by rw [← HL.out]; exact hl
  clear hr hc hok2 hl ha
  go_enter Tryz.func45, Tryz.ntmps45
  go_wp2
  have tb := two_blocks w #[.int .i64 40, .int .u64 4] #[.int .i64 40, .int .u64 4] 47 47
  refine bodyPost_ret (results_tc rfl _ _ w.heap.size 47 _ _ (by rfl) tb.1 Tryz.underlying47 rfl info_res) rfl ?_
  exact ⟨_, _, rfl, HQ.out.below tb.2.2.1, ⟨_, rfl⟩, ⟨_, _, rfl⟩, tb.2.2.1⟩
set_option maxRecDepth 100000 in
set_option maxHeartbeats 8000000 in
theorem cdoes_add (o : QO) (p : Value) (a : Int) (w : World) (hq : QIn w p o) (hok : COk 100 o) (ha : U64' a) :
 Calls Tryz.prog 45 #[p, .string ⟨#[97, 100, 100]⟩, .int .u64 a] w (DoesQ w (cP 1 a o)) := by
 have HQ := Lib.hid hq
 have HA := Lib.hid ha
 rcases o with _ | ⟨cap, l⟩
 ·have hp0 : p = .pointer none := hq
  subst hp0
  clear hq hok ha
  go_enter Tryz.func45, Tryz.ntmps45
  go_wp2_with fail
  refine (c_names _).mono ?_
  rintro e wc ⟨rfl, rfl⟩
  go_wp2_with fail
  refine (c_contains _ _ (by simp) ⟨#[97, 100, 100]⟩ (by simp)).mono ?_
  rintro e wc ⟨rfl, rfl⟩
  obtain ⟨W1, hW1⟩ : ∃ W1, (w.alloc (.cells #[.int .i64 0, .int .u64 0] 47)).alloc (.cells #[.string ⟨#[110, 101, 119]⟩, .string ⟨#[97, 100, 100]⟩, .string ⟨#[100, 101, 108]⟩, .string ⟨#[104, 97, 115]⟩, .string ⟨#[108, 101, 97, 115, 116]⟩, .string ⟨#[115, 105, 122, 101]⟩, .string ⟨#[100, 114, 111, 112]⟩] 9) = W1 := ⟨_, rfl⟩
  have HK : Hid (Bk W1 w.heap.size 47 #[.int .i64 0, .int .u64 0]) := by show Bk _ _ _ _; rw [← hW1]; exact (Bk.new w _ _).alloc _
  have HB : Hid (Below w.heap.size w W1) := by show Below _ _ _; rw [← hW1]; exact ((Below.refl _ _).alloc (Nat.le_refl _) _).alloc (by simp) _
  rw [hW1]
  clear hW1
  have kc0 := HK.out.cell 0
  have kc1 := HK.out.cell 1
  have kf := HK.out.lt
  have kg0 := HK.out.frozen 0
  have kg1 := HK.out.frozen 1
  have hsz := HB.out.size
  go_wp2
  refine bodyPost_ret (results_tc rfl _ _ w.heap.size 47 _ _ (by rfl) (((HK.out.set_ 0 _).set_ 1 _).alloc _) Tryz.underlying47 rfl info_res) rfl ?_
  exact ⟨.pointer none, _, rfl, rfl, ⟨_, rfl⟩, ⟨_, _, rfl⟩, ((HB.out.setCell (Nat.le_refl _) _).setCell (Nat.le_refl _) _).alloc (by simp; omega) _⟩
 ·obtain ⟨b, A, n, c, hp0, hc, hb, h0, h1, hr, _⟩ := hq
  subst hp0
  have HR := Lib.hid hr
  have HC := Lib.hid hc
  have HL := Lib.hid hr.u64Len
  obtain ⟨⟨hc0, hc1⟩, hok2, hl, hup⟩ := hok
  have HM := Lib.hid hok2
  have hn : n ≤ 100 := by rw [← HL.out]; exact hl
  have HOk : Hid (COk 100 (some (cap, l))) := ⟨⟨hc0, hc1⟩, hok2, hl, hup⟩
  clear hr hc hok2 hl ha hup
  go_enter Tryz.func45, Tryz.ntmps45
  go_wp2_with fail
  refine (c_names _).mono ?_
  rintro e wc ⟨rfl, rfl⟩
  go_wp2_with fail
  refine (c_contains _ _ (by simp) ⟨#[97, 100, 100]⟩ (by simp)).mono ?_
  rintro e wc ⟨rfl, rfl⟩
  obtain ⟨W1, hW1⟩ : ∃ W1, (w.alloc (.cells #[.int .i64 0, .int .u64 0] 47)).alloc (.cells #[.string ⟨#[110, 101, 119]⟩, .string ⟨#[97, 100, 100]⟩, .string ⟨#[100, 101, 108]⟩, .string ⟨#[104, 97, 115]⟩, .string ⟨#[108, 101, 97, 115, 116]⟩, .string ⟨#[115, 105, 122, 101]⟩, .string ⟨#[100, 114, 111, 112]⟩] 9) = W1 := ⟨_, rfl⟩
  have HK : Hid (Bk W1 w.heap.size 47 #[.int .i64 0, .int .u64 0]) := by show Bk _ _ _ _; rw [← hW1]; exact (Bk.new w _ _).alloc _
  have HB : Hid (Below w.heap.size w W1) := by show Below _ _ _; rw [← hW1]; exact ((Below.refl _ _).alloc (Nat.le_refl _) _).alloc (by simp) _
  rw [hW1]
  clear hW1
  have kc0 := HK.out.cell 0
  have kc1 := HK.out.cell 1
  have kf := HK.out.lt
  have kg0 := HK.out.frozen 0
  have kg1 := HK.out.frozen 1
  have hsz := HB.out.size
  have q0 : W1.cell? ⟨b, 0, none⟩ = some (.int .u64 cap) := (HB.out.cell (p := ⟨b, 0, none⟩) hb).trans h0
  have q1 : W1.cell? ⟨b, 1, none⟩ = some (.slice A n c) := (HB.out.cell (p := ⟨b, 1, none⟩) hb).trans h1
  go_wp2_with fail
  refine (ckey_add cap l (.pointer (some ⟨b, 0, none⟩)) a W1 (HQ.out.below HB.out) HOk.out HA.out).mono ?_
  rintro e w5 ⟨p5, r5, rfl, hq5, ⟨pa5, rfl⟩, ⟨c5, u5, rfl⟩, hb5⟩
  have HQ5 := Lib.hid hq5
  have HB := Lib.hid (HB.out.trans (hb5.mono HB.out.size))
  have HK := Lib.hid (HK.out.below hb5 HK.out.lt)
  clear hq5 hb5 q0 q1 kc0 kc1 kf kg0 kg1 hsz
  have kc0 := HK.out.cell 0
  have kc1 := HK.out.cell 1
  have kf := HK.out.lt
  have kg0 := HK.out.frozen 0
  have kg1 := HK.out.frozen 1
  have hsz := HB.out.size
  go_wp2
  refine bodyPost_ret (results_tc rfl _ _ w.heap.size 47 _ _ (by rfl) ((HK.out.set_ 0 _).set_ 1 _) Tryz.underlying47 rfl info_res) rfl ?_
  exact ⟨.pointer pa5, _, rfl, HQ5.out.res HK.out _ _, ⟨_, rfl⟩, ⟨_, _, rfl⟩, ((HB.out.setCell (Nat.le_refl _) _).setCell (Nat.le_refl _) _)⟩
set_option maxRecDepth 100000 in
set_option maxHeartbeats 8000000 in
theorem cdoes_del (o : QO) (p : Value) (a : Int) (w : World) (hq : QIn w p o) (hok : COk 100 o) (ha : U64' a) :
 Calls Tryz.prog 45 #[p, .string ⟨#[100, 101, 108]⟩, .int .u64 a] w (DoesQ w (cP 2 a o)) := by
 have HQ := Lib.hid hq
 have HA := Lib.hid ha
 rcases o with _ | ⟨cap, l⟩
 ·have hp0 : p = .pointer none := hq
  subst hp0
  clear hq hok ha
  go_enter Tryz.func45, Tryz.ntmps45
  go_wp2_with fail
  refine (c_names _).mono ?_
  rintro e wc ⟨rfl, rfl⟩
  go_wp2_with fail
  refine (c_contains _ _ (by simp) ⟨#[100, 101, 108]⟩ (by simp)).mono ?_
  rintro e wc ⟨rfl, rfl⟩
  obtain ⟨W1, hW1⟩ : ∃ W1, (w.alloc (.cells #[.int .i64 0, .int .u64 0] 47)).alloc (.cells #[.string ⟨#[110, 101, 119]⟩, .string ⟨#[97, 100, 100]⟩, .string ⟨#[100, 101, 108]⟩, .string ⟨#[104, 97, 115]⟩, .string ⟨#[108, 101, 97, 115, 116]⟩, .string ⟨#[115, 105, 122, 101]⟩, .string ⟨#[100, 114, 111, 112]⟩] 9) = W1 := ⟨_, rfl⟩
  have HK : Hid (Bk W1 w.heap.size 47 #[.int .i64 0, .int .u64 0]) := by show Bk _ _ _ _; rw [← hW1]; exact (Bk.new w _ _).alloc _
  have HB : Hid (Below w.heap.size w W1) := by show Below _ _ _; rw [← hW1]; exact ((Below.refl _ _).alloc (Nat.le_refl _) _).alloc (by simp) _
  rw [hW1]
  clear hW1
  have kc0 := HK.out.cell 0
  have kc1 := HK.out.cell 1
  have kf := HK.out.lt
  have kg0 := HK.out.frozen 0
  have kg1 := HK.out.frozen 1
  have hsz := HB.out.size
  go_wp2
  refine bodyPost_ret (results_tc rfl _ _ w.heap.size 47 _ _ (by rfl) (((HK.out.set_ 0 _).set_ 1 _).alloc _) Tryz.underlying47 rfl info_res) rfl ?_
  exact ⟨.pointer none, _, rfl, rfl, ⟨_, rfl⟩, ⟨_, _, rfl⟩, ((HB.out.setCell (Nat.le_refl _) _).setCell (Nat.le_refl _) _).alloc (by simp; omega) _⟩
 ·obtain ⟨b, A, n, c, hp0, hc, hb, h0, h1, hr, _⟩ := hq
  subst hp0
  have HR := Lib.hid hr
  have HC := Lib.hid hc
  have HL := Lib.hid hr.u64Len
  obtain ⟨⟨hc0, hc1⟩, hok2, hl, hup⟩ := hok
  have HM := Lib.hid hok2
  have hn : n ≤ 100 := by rw [← HL.out]; exact hl
  have HOk : Hid (COk 100 (some (cap, l))) := ⟨⟨hc0, hc1⟩, hok2, hl, hup⟩
  clear hr hc hok2 hl ha hup
  go_enter Tryz.func45, Tryz.ntmps45
  go_wp2_with fail
  refine (c_names _).mono ?_
  rintro e wc ⟨rfl, rfl⟩
  go_wp2_with fail
  refine (c_contains _ _ (by simp) ⟨#[100, 101, 108]⟩ (by simp)).mono ?_
  rintro e wc ⟨rfl, rfl⟩
  obtain ⟨W1, hW1⟩ : ∃ W1, (w.alloc (.cells #[.int .i64 0, .int .u64 0] 47)).alloc (.cells #[.string ⟨#[110, 101, 119]⟩, .string ⟨#[97, 100, 100]⟩, .string ⟨#[100, 101, 108]⟩, .string ⟨#[104, 97, 115]⟩, .string ⟨#[108, 101, 97, 115, 116]⟩, .string ⟨#[115, 105, 122, 101]⟩, .string ⟨#[100, 114, 111, 112]⟩] 9) = W1 := ⟨_, rfl⟩
  have HK : Hid (Bk W1 w.heap.size 47 #[.int .i64 0, .int .u64 0]) := by show Bk _ _ _ _; rw [← hW1]; exact (Bk.new w _ _).alloc _
  have HB : Hid (Below w.heap.size w W1) := by show Below _ _ _; rw [← hW1]; exact ((Below.refl _ _).alloc (Nat.le_refl _) _).alloc (by simp) _
  rw [hW1]
  clear hW1
  have kc0 := HK.out.cell 0
  have kc1 := HK.out.cell 1
  have kf := HK.out.lt
  have kg0 := HK.out.frozen 0
  have kg1 := HK.out.frozen 1
  have hsz := HB.out.size
  have q0 : W1.cell? ⟨b, 0, none⟩ = some (.int .u64 cap) := (HB.out.cell (p := ⟨b, 0, none⟩) hb).trans h0
  have q1 : W1.cell? ⟨b, 1, none⟩ = some (.slice A n c) := (HB.out.cell (p := ⟨b, 1, none⟩) hb).trans h1
  go_wp2_with fail
  refine (ckey_del cap l (.pointer (some ⟨b, 0, none⟩)) a W1 (HQ.out.below HB.out) HOk.out HA.out).mono ?_
  rintro e w5 ⟨p5, r5, rfl, hq5, ⟨pa5, rfl⟩, ⟨c5, u5, rfl⟩, hb5⟩
  have HQ5 := Lib.hid hq5
  have HB := Lib.hid (HB.out.trans (hb5.mono HB.out.size))
  have HK := Lib.hid (HK.out.below hb5 HK.out.lt)
  clear hq5 hb5 q0 q1 kc0 kc1 kf kg0 kg1 hsz
  have kc0 := HK.out.cell 0
  have kc1 := HK.out.cell 1
  have kf := HK.out.lt
  have kg0 := HK.out.frozen 0
  have kg1 := HK.out.frozen 1
  have hsz := HB.out.size
  go_wp2
  refine bodyPost_ret (results_tc rfl _ _ w.heap.size 47 _ _ (by rfl) ((HK.out.set_ 0 _).set_ 1 _) Tryz.underlying47 rfl info_res) rfl ?_
  exact ⟨.pointer pa5, _, rfl, HQ5.out.res HK.out _ _, ⟨_, rfl⟩, ⟨_, _, rfl⟩, ((HB.out.setCell (Nat.le_refl _) _).setCell (Nat.le_refl _) _)⟩
set_option maxRecDepth 100000 in
set_option maxHeartbeats 8000000 in
theorem cdoes_has (o : QO) (p : Value) (a : Int) (w : World) (hq : QIn w p o) (hok : COk 100 o) (ha : U64' a) :
 Calls Tryz.prog 45 #[p, .string ⟨#[104, 97, 115]⟩, .int .u64 a] w (DoesQ w (cP 3 a o)) := by
 have HQ := Lib.hid hq
 have HA := Lib.hid ha
 rcases o with _ | ⟨cap, l⟩
 ·have hp0 : p = .pointer none := hq
  subst hp0
  clear hq hok ha
  go_enter Tryz.func45, Tryz.ntmps45
  go_wp2_with fail
  refine (c_names _).mono ?_
  rintro e wc ⟨rfl, rfl⟩
  go_wp2_with fail
  refine (c_contains _ _ (by simp) ⟨#[104, 97, 115]⟩ (by simp)).mono ?_
  rintro e wc ⟨rfl, rfl⟩
  obtain ⟨W1, hW1⟩ : ∃ W1, (w.alloc (.cells #[.int .i64 0, .int .u64 0] 47)).alloc (.cells #[.string ⟨#[110, 101, 119]⟩, .string ⟨#[97, 100, 100]⟩, .string ⟨#[100, 101, 108]⟩, .string ⟨#[104, 97, 115]⟩, .string ⟨#[108, 101, 97, 115, 116]⟩, .string ⟨#[115, 105, 122, 101]⟩, .string ⟨#[100, 114, 111, 112]⟩] 9) = W1 := ⟨_, rfl⟩
  have HK : Hid (Bk W1 w.heap.size 47 #[.int .i64 0, .int .u64 0]) := by show Bk _ _ _ _; rw [← hW1]; exact (Bk.new w _ _).alloc _
  have HB : Hid (Below w.heap.size w W1) := by show Below _ _ _; rw [← hW1]; exact ((Below.refl _ _).alloc (Nat.le_refl _) _).alloc (by simp) _
  rw [hW1]
  clear hW1
  have kc0 := HK.out.cell 0
  have kc1 := HK.out.cell 1
  have kf := HK.out.lt
  have kg0 := HK.out.frozen 0
  have kg1 := HK.out.frozen 1
  have hsz := HB.out.size
  go_wp2
  refine bodyPost_ret (results_tc rfl _ _ w.heap.size 47 _ _ (by rfl) (((HK.out.set_ 0 _).set_ 1 _).alloc _) Tryz.underlying47 rfl info_res) rfl ?_
  exact ⟨.pointer none, _, rfl, rfl, ⟨_, rfl⟩, ⟨_, _, rfl⟩, ((HB.out.setCell (Nat.le_refl _) _).setCell (Nat.le_refl _) _).alloc (by simp; omega) _⟩
 ·obtain ⟨b, A, n, c, hp0, hc, hb, h0, h1, hr, _⟩ := hq
  subst hp0
  have HR := Lib.hid hr
  have HC := Lib.hid hc
  have HL := Lib.hid hr.u64Len
  obtain ⟨⟨hc0, hc1⟩, hok2, hl, hup⟩ := hok
  have HM := Lib.hid hok2
  have hn : n ≤ 100 := by rw [← HL.out]; exact hl
  have HOk : Hid (COk 100 (some (cap, l))) := ⟨⟨hc0, hc1⟩, hok2, hl, hup⟩
  clear hr hc hok2 hl ha hup
  go_enter Tryz.func45, Tryz.ntmps45
  go_wp2_with fail
  refine (c_names _).mono ?_
  rintro e wc ⟨rfl, rfl⟩
  go_wp2_with fail
  refine (c_contains _ _ (by simp) ⟨#[104, 97, 115]⟩ (by simp)).mono ?_
  rintro e wc ⟨rfl, rfl⟩
  obtain ⟨W1, hW1⟩ : ∃ W1, (w.alloc (.cells #[.int .i64 0, .int .u64 0] 47)).alloc (.cells #[.string ⟨#[110, 101, 119]⟩, .string ⟨#[97, 100, 100]⟩, .string ⟨#[100, 101, 108]⟩, .string ⟨#[104, 97, 115]⟩, .string ⟨#[108, 101, 97, 115, 116]⟩, .string ⟨#[115, 105, 122, 101]⟩, .string ⟨#[100, 114, 111, 112]⟩] 9) = W1 := ⟨_, rfl⟩
  have HK : Hid (Bk W1 w.heap.size 47 #[.int .i64 0, .int .u64 0]) := by show Bk _ _ _ _; rw [← hW1]; exact (Bk.new w _ _).alloc _
  have HB : Hid (Below w.heap.size w W1) := by show Below _ _ _; rw [← hW1]; exact ((Below.refl _ _).alloc (Nat.le_refl _) _).alloc (by simp) _
  rw [hW1]
  clear hW1
  have kc0 := HK.out.cell 0
  have kc1 := HK.out.cell 1
  have kf := HK.out.lt
  have kg0 := HK.out.frozen 0
  have kg1 := HK.out.frozen 1
  have hsz := HB.out.size
  have q0 : W1.cell? ⟨b, 0, none⟩ = some (.int .u64 cap) := (HB.out.cell (p := ⟨b, 0, none⟩) hb).trans h0
  have q1 : W1.cell? ⟨b, 1, none⟩ = some (.slice A n c) := (HB.out.cell (p := ⟨b, 1, none⟩) hb).trans h1
  go_wp2_with fail
  refine (ckey_has cap l (.pointer (some ⟨b, 0, none⟩)) a W1 (HQ.out.below HB.out) HOk.out HA.out).mono ?_
  rintro e w5 ⟨p5, r5, rfl, hq5, ⟨pa5, rfl⟩, ⟨c5, u5, rfl⟩, hb5⟩
  have HQ5 := Lib.hid hq5
  have HB := Lib.hid (HB.out.trans (hb5.mono HB.out.size))
  have HK := Lib.hid (HK.out.below hb5 HK.out.lt)
  clear hq5 hb5 q0 q1 kc0 kc1 kf kg0 kg1 hsz
  have kc0 := HK.out.cell 0
  have kc1 := HK.out.cell 1
  have kf := HK.out.lt
  have kg0 := HK.out.frozen 0
  have kg1 := HK.out.frozen 1
  have hsz := HB.out.size
  go_wp2
  refine bodyPost_ret (results_tc rfl _ _ w.heap.size 47 _ _ (by rfl) ((HK.out.set_ 0 _).set_ 1 _) Tryz.underlying47 rfl info_res) rfl ?_
  exact ⟨.pointer pa5, _, rfl, HQ5.out.res HK.out _ _, ⟨_, rfl⟩, ⟨_, _, rfl⟩, ((HB.out.setCell (Nat.le_refl _) _).setCell (Nat.le_refl _) _)⟩
set_option maxRecDepth 100000 in
set_option maxHeartbeats 8000000 in
theorem cdoes_least (o : QO) (p : Value) (a : Int) (w : World) (hq : QIn w p o) (hok : COk 100 o) (ha : U64' a) :
 Calls Tryz.prog 45 #[p, .string ⟨#[108, 101, 97, 115, 116]⟩, .int .u64 a] w (DoesQ w (cP 4 a o)) := by
 have HQ := Lib.hid hq
 have HA := Lib.hid ha
 rcases o with _ | ⟨cap, l⟩
 ·have hp0 : p = .pointer none := hq
  subst hp0
  clear hq hok ha
  go_enter Tryz.func45, Tryz.ntmps45
  go_wp2_with fail
  refine (c_names _).mono ?_
  rintro e wc ⟨rfl, rfl⟩
  go_wp2_with fail
  refine (c_contains _ _ (by simp) ⟨#[108, 101, 97, 115, 116]⟩ (by simp)).mono ?_
  rintro e wc ⟨rfl, rfl⟩
  obtain ⟨W1, hW1⟩ : ∃ W1, (w.alloc (.cells #[.int .i64 0, .int .u64 0] 47)).alloc (.cells #[.string ⟨#[110, 101, 119]⟩, .string ⟨#[97, 100, 100]⟩, .string ⟨#[100, 101, 108]⟩, .string ⟨#[104, 97, 115]⟩, .string ⟨#[108, 101, 97, 115, 116]⟩, .string ⟨#[115, 105, 122, 101]⟩, .string ⟨#[100, 114, 111, 112]⟩] 9) = W1 := ⟨_, rfl⟩
  have HK : Hid (Bk W1 w.heap.size 47 #[.int .i64 0, .int .u64 0]) := by show Bk _ _ _ _; rw [← hW1]; exact (Bk.new w _ _).alloc _
  have HB : Hid (Below w.heap.size w W1) := by show Below _ _ _; rw [← hW1]; exact ((Below.refl _ _).alloc (Nat.le_refl _) _).alloc (by simp) _
  rw [hW1]
  clear hW1
  have kc0 := HK.out.cell 0
  have kc1 := HK.out.cell 1
  have kf := HK.out.lt
  have kg0 := HK.out.frozen 0
  have kg1 := HK.out.frozen 1
  have hsz := HB.out.size
  go_wp2
  refine bodyPost_ret (results_tc rfl _ _ w.heap.size 47 _ _ (by rfl) (((HK.out.set_ 0 _).set_ 1 _).alloc _) Tryz.underlying47 rfl info_res) rfl ?_
  exact ⟨.pointer none, _, rfl, rfl, ⟨_, rfl⟩, ⟨_, _, rfl⟩, ((HB.out.setCell (Nat.le_refl _) _).setCell (Nat.le_refl _) _).alloc (by simp; omega) _⟩
 ·obtain ⟨b, A, n, c, hp0, hc, hb, h0, h1, hr, _⟩ := hq
  subst hp0
  have HR := Lib.hid hr
  have HC := Lib.hid hc
  have HL := Lib.hid hr.u64Len
  obtain ⟨⟨hc0, hc1⟩, hok2, hl, hup⟩ := hok
  have HM := Lib.hid hok2
  have hn : n ≤ 100 := by rw [← HL.out]; exact hl
  have HOk : Hid (COk 100 (some (cap, l))) := ⟨⟨hc0, hc1⟩, hok2, hl, hup⟩
  clear hr hc hok2 hl ha hup
  go_enter Tryz.func45, Tryz.ntmps45
  go_wp2_with fail
  refine (c_names _).mono ?_
  rintro e wc ⟨rfl, rfl⟩
  go_wp2_with fail
  refine (c_contains _ _ (by simp) ⟨#[108, 101, 97, 115, 116]⟩ (by simp)).mono ?_
  rintro e wc ⟨rfl, rfl⟩
  obtain ⟨W1, hW1⟩ : ∃ W1, (w.alloc (.cells #[.int .i64 0, .int .u64 0] 47)).alloc (.cells #[.string ⟨#[110, 101, 119]⟩, .string ⟨#[97, 100, 100]⟩, .string ⟨#[100, 101, 108]⟩, .string ⟨#[104, 97, 115]⟩, .string ⟨#[108, 101, 97, 115, 116]⟩, .string ⟨#[115, 105, 122, 101]⟩, .string ⟨#[100, 114, 111, 112]⟩] 9) = W1 := ⟨_, rfl⟩
  have HK : Hid (Bk W1 w.heap.size 47 #[.int .i64 0, .int .u64 0]) := by show Bk _ _ _ _; rw [← hW1]; exact (Bk.new w _ _).alloc _
  have HB : Hid (Below w.heap.size w W1) := by show Below _ _ _; rw [← hW1]; exact ((Below.refl _ _).alloc (Nat.le_refl _) _).alloc (by simp) _
  rw [hW1]
  clear hW1
  have kc0 := HK.out.cell 0
  have kc1 := HK.out.cell 1
  have kf := HK.out.lt
  have kg0 := HK.out.frozen 0
  have kg1 := HK.out.frozen 1
  have hsz := HB.out.size
  have q0 : W1.cell? ⟨b, 0, none⟩ = some (.int .u64 cap) := (HB.out.cell (p := ⟨b, 0, none⟩) hb).trans h0
  have q1 : W1.cell? ⟨b, 1, none⟩ = some (.slice A n c) := (HB.out.cell (p := ⟨b, 1, none⟩) hb).trans h1
  rcases Nat.eq_zero_or_pos n with h0n | hn0
  ·subst h0n
   have hl0 : l = [] := List.eq_nil_of_length_eq_zero HL.out
   subst hl0
   have hq' : cP 4 a (some (cap, [])) = some (cap, []) := by show cS 4 a cap ([]) = _; unfold cS; rw [if_neg (by omega), if_neg (by omega), if_neg (by simp)]
   have HE := Lib.hid hq'
   clear hq'
   go_wp2
   refine bodyPost_ret (results_tc rfl _ _ w.heap.size 47 _ _ (by rfl) (((HK.out.set_ 0 _).set_ 1 _).alloc _) Tryz.underlying47 rfl info_res) rfl ?_
   exact ⟨.pointer (some ⟨b, 0, none⟩), _, rfl, (by rw [HE.out]; exact HQ.out.below (((HB.out.setCell (Nat.le_refl _) _).setCell (Nat.le_refl _) _).alloc (by simp; omega) _)), ⟨_, rfl⟩, ⟨_, _, rfl⟩, ((HB.out.setCell (Nat.le_refl _) _).setCell (Nat.le_refl _) _).alloc (by simp; omega) _⟩
  ·skip
   obtain ⟨bA, oA, rfl, hbA, hcA⟩ := HR.out.at_ hn0
   obtain ⟨x0, l', rfl⟩ : ∃ x0 l', l = x0 :: l' := list_pos (HL.out.symm ▸ hn0)
   have h2 : w.cell? ⟨bA, oA, none⟩ = some (.int .u64 x0) := hcA 0 _ rfl
   clear hcA
   have q2 : W1.cell? ⟨bA, oA, none⟩ = some (.int .u64 x0) := (HB.out.cell (p := ⟨bA, oA, none⟩) hbA).trans h2
   have hnz : ¬ ((n : Int) = 0) := by omega
   have hnz2 : (0 : Int) < (n : Int) := by omega
   have hnz3 : ((n : Int) == 0) = false := beq_eq_false_iff_ne.2 hnz
   have hq' : cP 4 a (some (cap, x0 :: l')) = some (cap, x0 :: l') := by show cS 4 a cap (x0 :: l') = _; unfold cS; rw [if_neg (by omega), if_neg (by omega), if_neg (by simp)]
   have HE := Lib.hid hq'
   clear hq'
   go_wp2_with fail
   refine wp_region_held_drew (S := (fun w' => w'.cell? ⟨b, 0, none⟩ = some (.int .u64 cap) ∧ w'.cell? ⟨b, 1, none⟩ = some (.slice (some ⟨bA, oA, none⟩) n c) ∧ w'.cell? ⟨bA, oA, none⟩ = some (.int .u64 x0))) (by kernel_rfl) ?_ (fun hHeld => ?_)
   ·exact ⟨q0, q1, q2⟩
   refine takeA 0 ?_
   try simp only [Act.put, pS]
   refine takeA 1 ?_
   try simp only [Act.put, pS]
   refine takeA 2 ?_
   try simp only [Act.put, pS]
   refine takeA 3 ?_
   try simp only [Act.put, pS]
   refine takeA 4 ?_
   try simp only [Act.put, pS]
   refine takeA 5 ?_
   try simp only [Act.put, pS]
   refine takeA 6 ?_
   try simp only [Act.put, pS]
   refine takeA 7 ?_
   try simp only [Act.put, pS]
   refine takeA 8 ?_
   try simp only [Act.put, pS]
   obtain ⟨V0, hV0⟩ : ∃ V0, W1.drew = V0 := ⟨_, rfl⟩
   have HK : Hid (Bk V0 w.heap.size 47 #[.int .i64 0, .int .u64 0]) := by show Bk _ _ _ _; rw [← hV0]; exact HK.out
   have HB : Hid (Below w.heap.size w V0) := by show Below _ _ _; rw [← hV0]; exact HB.out.drew
   rw [hV0] at hHeld ⊢
   clear hV0 kc0 kc1 kf kg0 kg1 hsz q0 q1 q2
   refine comeA 9 fun K hK => ?_
   have kc0 := HK.out.cell 0
   have kc1 := HK.out.cell 1
   have kf := HK.out.lt
   have kg0 := HK.out.frozen 0
   have kg1 := HK.out.frozen 1
   have hsz := HB.out.size
   go_simp
   refine hK.out _ _ ?_ (fun hHeld => ?_)
   ·exact ⟨((((HB.out.setCell (Nat.le_refl _) _).setCell (Nat.le_refl _) _)).cell (p := ⟨b, 0, none⟩) hb).trans h0, ((((HB.out.setCell (Nat.le_refl _) _).setCell (Nat.le_refl _) _)).cell (p := ⟨b, 1, none⟩) hb).trans h1, ((((HB.out.setCell (Nat.le_refl _) _).setCell (Nat.le_refl _) _)).cell (p := ⟨bA, oA, none⟩) hbA).trans h2⟩
   clear hK K
   try simp only [Act.put, pS]
   refine wpAnyH_done (by kernel_rfl) ?_ _
   try simp only [Act.put, pS]
   clear hHeld
   go_wp2
   refine bodyPost_ret (results_tc rfl _ _ w.heap.size 47 _ _ (by rfl) ((HK.out.set_ 0 _).set_ 1 _) Tryz.underlying47 rfl info_res) rfl ?_
   exact ⟨.pointer (some ⟨b, 0, none⟩), _, rfl, (by rw [HE.out]; exact HQ.out.below (((HB.out.setCell (Nat.le_refl _) _).setCell (Nat.le_refl _) _))), ⟨_, rfl⟩, ⟨_, _, rfl⟩, ((HB.out.setCell (Nat.le_refl _) _).setCell (Nat.le_refl _) _)⟩
set_option maxRecDepth 100000 in
set_option maxHeartbeats 8000000 in
theorem cdoes_size (o : QO) (p : Value) (a : Int) (w : World) (hq : QIn w p o) (hok : COk 100 o) (ha : U64' a) :
 Calls Tryz.prog 45 #[p, .string ⟨#[115, 105, 122, 101]⟩, .int .u64 a] w (DoesQ w (cP 5 a o)) := by
 have HQ := Lib.hid hq
 have HA := Lib.hid ha
 rcases o with _ | ⟨cap, l⟩
 ·have hp0 : p = .pointer none := hq
  subst hp0
  clear hq hok ha
  go_enter Tryz.func45, Tryz.ntmps45
  go_wp2_with fail
  refine (c_names _).mono ?_
  rintro e wc ⟨rfl, rfl⟩
  go_wp2_with fail
  refine (c_contains _ _ (by simp) ⟨#[115, 105, 122, 101]⟩ (by simp)).mono ?_
  rintro e wc ⟨rfl, rfl⟩
  obtain ⟨W1, hW1⟩ : ∃ W1, (w.alloc (.cells #[.int .i64 0, .int .u64 0] 47)).alloc (.cells #[.string ⟨#[110, 101, 119]⟩, .string ⟨#[97, 100, 100]⟩, .string ⟨#[100, 101, 108]⟩, .string ⟨#[104, 97, 115]⟩, .string ⟨#[108, 101, 97, 115, 116]⟩, .string ⟨#[115, 105, 122, 101]⟩, .string ⟨#[100, 114, 111, 112]⟩] 9) = W1 := ⟨_, rfl⟩
  have HK : Hid (Bk W1 w.heap.size 47 #[.int .i64 0, .int .u64 0]) := by show Bk _ _ _ _; rw [← hW1]; exact (Bk.new w _ _).alloc _
  have HB : Hid (Below w.heap.size w W1) := by show Below _ _ _; rw [← hW1]; exact ((Below.refl _ _).alloc (Nat.le_refl _) _).alloc (by simp) _
  rw [hW1]
  clear hW1
  have kc0 := HK.out.cell 0
  have kc1 := HK.out.cell 1
  have kf := HK.out.lt
  have kg0 := HK.out.frozen 0
  have kg1 := HK.out.frozen 1
  have hsz := HB.out.size
  go_wp2
  refine bodyPost_ret (results_tc rfl _ _ w.heap.size 47 _ _ (by rfl) (((HK.out.set_ 0 _).set_ 1 _).alloc _) Tryz.underlying47 rfl info_res) rfl ?_
  exact ⟨.pointer none, _, rfl, rfl, ⟨_, rfl⟩, ⟨_, _, rfl⟩, ((HB.out.setCell (Nat.le_refl _) _).setCell (Nat.le_refl _) _).alloc (by simp; omega) _⟩
 ·obtain ⟨b, A, n, c, hp0, hc, hb, h0, h1, hr, _⟩ := hq
  subst hp0
  have HR := Lib.hid hr
  have HC := Lib.hid hc
  have HL := Lib.hid hr.u64Len
  obtain ⟨⟨hc0, hc1⟩, hok2, hl, hup⟩ := hok
  have HM := Lib.hid hok2
  have hn : n ≤ 100 := by rw [← HL.out]; exact hl
  have HOk : Hid (COk 100 (some (cap, l))) := ⟨⟨hc0, hc1⟩, hok2, hl, hup⟩
  clear hr hc hok2 hl ha hup
  go_enter Tryz.func45, Tryz.ntmps45
  go_wp2_with fail
  refine (c_names _).mono ?_
  rintro e wc ⟨rfl, rfl⟩
  go_wp2_with fail
  refine (c_contains _ _ (by simp) ⟨#[115, 105, 122, 101]⟩ (by simp)).mono ?_
  rintro e wc ⟨rfl, rfl⟩
  obtain ⟨W1, hW1⟩ : ∃ W1, (w.alloc (.cells #[.int .i64 0, .int .u64 0] 47)).alloc (.cells #[.string ⟨#[110, 101, 119]⟩, .string ⟨#[97, 100, 100]⟩, .string ⟨#[100, 101, 108]⟩, .string ⟨#[104, 97, 115]⟩, .string ⟨#[108, 101, 97, 115, 116]⟩, .string ⟨#[115, 105, 122, 101]⟩, .string ⟨#[100, 114, 111, 112]⟩] 9) = W1 := ⟨_, rfl⟩
  have HK : Hid (Bk W1 w.heap.size 47 #[.int .i64 0, .int .u64 0]) := by show Bk _ _ _ _; rw [← hW1]; exact (Bk.new w _ _).alloc _
  have HB : Hid (Below w.heap.size w W1) := by show Below _ _ _; rw [← hW1]; exact ((Below.refl _ _).alloc (Nat.le_refl _) _).alloc (by simp) _
  rw [hW1]
  clear hW1
  have kc0 := HK.out.cell 0
  have kc1 := HK.out.cell 1
  have kf := HK.out.lt
  have kg0 := HK.out.frozen 0
  have kg1 := HK.out.frozen 1
  have hsz := HB.out.size
  have q0 : W1.cell? ⟨b, 0, none⟩ = some (.int .u64 cap) := (HB.out.cell (p := ⟨b, 0, none⟩) hb).trans h0
  have q1 : W1.cell? ⟨b, 1, none⟩ = some (.slice A n c) := (HB.out.cell (p := ⟨b, 1, none⟩) hb).trans h1
  have hq' : cP 5 a (some (cap, l)) = some (cap, l) := by show cS 5 a cap l = _; unfold cS; rw [if_neg (by omega), if_neg (by omega), if_neg (by simp)]
  have HE := Lib.hid hq'
  clear hq'
  go_wp2
  refine bodyPost_ret (results_tc rfl _ _ w.heap.size 47 _ _ (by rfl) ((HK.out.set_ 0 _).set_ 1 _) Tryz.underlying47 rfl info_res) rfl ?_
  exact ⟨.pointer (some ⟨b, 0, none⟩), _, rfl, (by rw [HE.out]; exact HQ.out.below (((HB.out.setCell (Nat.le_refl _) _).setCell (Nat.le_refl _) _))), ⟨_, rfl⟩, ⟨_, _, rfl⟩, ((HB.out.setCell (Nat.le_refl _) _).setCell (Nat.le_refl _) _)⟩
set_option maxRecDepth 100000 in
set_option maxHeartbeats 8000000 in
theorem cdoes_drop (o : QO) (p : Value) (a : Int) (w : World) (hq : QIn w p o) (hok : COk 100 o) (ha : U64' a) :
 Calls Tryz.prog 45 #[p, .string ⟨#[100, 114, 111, 112]⟩, .int .u64 a] w (DoesQ w (cP 6 a o)) := by
 have HQ := Lib.hid hq
 have HA := Lib.hid ha
 rcases o with _ | ⟨cap, l⟩
 ·have hp0 : p = .pointer none := hq
  subst hp0
  clear hq hok ha
  go_enter Tryz.func45, Tryz.ntmps45
  go_wp2_with fail
  refine (c_names _).mono ?_
  rintro e wc ⟨rfl, rfl⟩
  go_wp2_with fail
  refine (c_contains _ _ (by simp) ⟨#[100, 114, 111, 112]⟩ (by simp)).mono ?_
  rintro e wc ⟨rfl, rfl⟩
  obtain ⟨W1, hW1⟩ : ∃ W1, (w.alloc (.cells #[.int .i64 0, .int .u64 0] 47)).alloc (.cells #[.string ⟨#[110, 101, 119]⟩, .string ⟨#[97, 100, 100]⟩, .string ⟨#[100, 101, 108]⟩, .string ⟨#[104, 97, 115]⟩, .string ⟨#[108, 101, 97, 115, 116]⟩, .string ⟨#[115, 105, 122, 101]⟩, .string ⟨#[100, 114, 111, 112]⟩] 9) = W1 := ⟨_, rfl⟩
  have HK : Hid (Bk W1 w.heap.size 47 #[.int .i64 0, .int .u64 0]) := by show Bk _ _ _ _; rw [← hW1]; exact (Bk.new w _ _).alloc _
  have HB : Hid (Below w.heap.size w W1) := by show Below _ _ _; rw [← hW1]; exact ((Below.refl _ _).alloc (Nat.le_refl _) _).alloc (by simp) _
  rw [hW1]
  clear hW1
  have kc0 := HK.out.cell 0
  have kc1 := HK.out.cell 1
  have kf := HK.out.lt
  have kg0 := HK.out.frozen 0
  have kg1 := HK.out.frozen 1
  have hsz := HB.out.size
  go_wp2
  refine bodyPost_ret (results_tc rfl _ _ w.heap.size 47 _ _ (by rfl) (((HK.out.set_ 0 _).set_ 1 _).alloc _) Tryz.underlying47 rfl info_res) rfl ?_
  exact ⟨.pointer none, _, rfl, rfl, ⟨_, rfl⟩, ⟨_, _, rfl⟩, ((HB.out.setCell (Nat.le_refl _) _).setCell (Nat.le_refl _) _).alloc (by simp; omega) _⟩
 ·obtain ⟨b, A, n, c, hp0, hc, hb, h0, h1, hr, _⟩ := hq
  subst hp0
  have HR := Lib.hid hr
  have HC := Lib.hid hc
  have HL := Lib.hid hr.u64Len
  obtain ⟨⟨hc0, hc1⟩, hok2, hl, hup⟩ := hok
  have HM := Lib.hid hok2
  have hn : n ≤ 100 := by rw [← HL.out]; exact hl
  have HOk : Hid (COk 100 (some (cap, l))) := ⟨⟨hc0, hc1⟩, hok2, hl, hup⟩
  clear hr hc hok2 hl ha hup
  go_enter Tryz.func45, Tryz.ntmps45
  go_wp2_with fail
  refine (c_names _).mono ?_
  rintro e wc ⟨rfl, rfl⟩
  go_wp2_with fail
  refine (c_contains _ _ (by simp) ⟨#[100, 114, 111, 112]⟩ (by simp)).mono ?_
  rintro e wc ⟨rfl, rfl⟩
  obtain ⟨W1, hW1⟩ : ∃ W1, (w.alloc (.cells #[.int .i64 0, .int .u64 0] 47)).alloc (.cells #[.string ⟨#[110, 101, 119]⟩, .string ⟨#[97, 100, 100]⟩, .string ⟨#[100, 101, 108]⟩, .string ⟨#[104, 97, 115]⟩, .string ⟨#[108, 101, 97, 115, 116]⟩, .string ⟨#[115, 105, 122, 101]⟩, .string ⟨#[100, 114, 111, 112]⟩] 9) = W1 := ⟨_, rfl⟩
  have HK : Hid (Bk W1 w.heap.size 47 #[.int .i64 0, .int .u64 0]) := by show Bk _ _ _ _; rw [← hW1]; exact (Bk.new w _ _).alloc _
  have HB : Hid (Below w.heap.size w W1) := by show Below _ _ _; rw [← hW1]; exact ((Below.refl _ _).alloc (Nat.le_refl _) _).alloc (by simp) _
  rw [hW1]
  clear hW1
  have kc0 := HK.out.cell 0
  have kc1 := HK.out.cell 1
  have kf := HK.out.lt
  have kg0 := HK.out.frozen 0
  have kg1 := HK.out.frozen 1
  have hsz := HB.out.size
  have q0 : W1.cell? ⟨b, 0, none⟩ = some (.int .u64 cap) := (HB.out.cell (p := ⟨b, 0, none⟩) hb).trans h0
  have q1 : W1.cell? ⟨b, 1, none⟩ = some (.slice A n c) := (HB.out.cell (p := ⟨b, 1, none⟩) hb).trans h1
  rcases Nat.eq_zero_or_pos n with h0n | hn0
  ·subst h0n
   have hl0 : l = [] := List.eq_nil_of_length_eq_zero HL.out
   subst hl0
   have hq' : cP 6 a (some (cap, [])) = none := by show cS 6 a cap ([]) = _; unfold cS; rw [if_neg (by omega), if_neg (by omega), if_pos ⟨rfl, rfl⟩]
   have HE := Lib.hid hq'
   clear hq'
   go_wp2
   refine bodyPost_ret (results_tc rfl _ _ w.heap.size 47 _ _ (by rfl) ((HK.out.set_ 0 _).set_ 1 _) Tryz.underlying47 rfl info_res) rfl ?_
   exact ⟨.pointer none, _, rfl, (by rw [HE.out]; exact rfl), ⟨_, rfl⟩, ⟨_, _, rfl⟩, ((HB.out.setCell (Nat.le_refl _) _).setCell (Nat.le_refl _) _)⟩
  ·skip
   obtain ⟨bA, oA, rfl, hbA, hcA⟩ := HR.out.at_ hn0
   obtain ⟨x0, l', rfl⟩ : ∃ x0 l', l = x0 :: l' := list_pos (HL.out.symm ▸ hn0)
   have h2 : w.cell? ⟨bA, oA, none⟩ = some (.int .u64 x0) := hcA 0 _ rfl
   clear hcA
   have q2 : W1.cell? ⟨bA, oA, none⟩ = some (.int .u64 x0) := (HB.out.cell (p := ⟨bA, oA, none⟩) hbA).trans h2
   have hnz : ¬ ((n : Int) = 0) := by omega
   have hnz2 : (0 : Int) < (n : Int) := by omega
   have hnz3 : ((n : Int) == 0) = false := beq_eq_false_iff_ne.2 hnz
   clear q2 h2 hbA
   have hq' : cP 6 a (some (cap, x0 :: l')) = some (cap, x0 :: l') := by show cS 6 a cap (x0 :: l') = _; unfold cS; rw [if_neg (by omega), if_neg (by omega), if_neg (by simp)]
   have HE := Lib.hid hq'
   clear hq'
   go_wp2
   refine bodyPost_ret (results_tc rfl _ _ w.heap.size 47 _ _ (by rfl) (((HK.out.set_ 0 _).set_ 1 _).alloc _) Tryz.underlying47 rfl info_res) rfl ?_
   exact ⟨.pointer (some ⟨b, 0, none⟩), _, rfl, (by rw [HE.out]; exact HQ.out.below (((HB.out.setCell (Nat.le_refl _) _).setCell (Nat.le_refl _) _).alloc (by simp; omega) _)), ⟨_, rfl⟩, ⟨_, _, rfl⟩, ((HB.out.setCell (Nat.le_refl _) _).setCell (Nat.le_refl _) _).alloc (by simp; omega) _⟩
end Go.Proofs.YtiiaingepbkikaaGreatDoor
