import Derived.Test.YtiiaingepbkikaaGreatDoorWoAC
import Derived.Deep.RegionHeld3
import Derived.Deep.RegionLaw
namespace Go.Proofs.YtiiaingepbkikaaGreatDoor
open Go.RowKit
set_option linter.unusedVariables false
theorem joinTail_len (B : Nat) (r : List Bys) (h : ∀ x ∈ r, x.length ≤ B) : (Lib.joinTail [32] r).length ≤ r.length * (B + 1) := by
 induction r with
 | nil => simp [Lib.joinTail]
 | cons x r ih =>
   have h1 := h x (by simp)
   have h2 := ih (fun y hy => h y (by simp [hy]))
   simp only [Lib.joinTail, List.map_cons, List.flatten_cons, List.length_append, List.length_cons, List.length_nil, Nat.add_mul] at h2 ⊢
   omega
theorem thing_len (root cap : Int) (word : Bys) (l : List Int) (h0 : -9223372036854775808 ≤ root) (h1 : root ≤ 9223372036854775807) (hc : cap ≤ 18446744073709551615) (hw : word.length ≤ 21) (hl : l.length ≤ 1000) (hx : ∀ x ∈ l, x ≤ 18446744073709551615) :
 (Lib.join (Lib.itoa root :: word :: dec cap :: [58] :: l.map dec) [32]).length ≤ 1000000 := by
 rw [Lib.join_cons]
 have h2 := itoa_len root h0 h1
 have h3 := joinTail_len 21 (word :: dec cap :: [58] :: l.map dec) (fun x hx2 => by
  rcases List.mem_cons.1 hx2 with rfl | hx2
  ·exact hw
  ·rcases List.mem_cons.1 hx2 with rfl | hx2
   ·have := dec_len cap hc; omega
   ·rcases List.mem_cons.1 hx2 with rfl | hx2
    ·simp
    ·obtain ⟨u, hu, rfl⟩ := List.mem_map.1 hx2
     have := dec_len u (hx u hu); omega)
 simp only [List.length_cons, List.length_map] at h3
 rw [List.length_append]
 omega
set_option maxRecDepth 100000 in
set_option maxHeartbeats 8000000 in
theorem thing_queue (root cap : Int) (l : List Int) (b : Nat) (A : Option Addr) (n c : Nat) (w : World) (hb : b < w.heap.size) (c0 : w.cell? ⟨b, 0, none⟩ = some (.int .u64 cap)) (c1 : w.cell? ⟨b, 1, none⟩ = some (.slice A n c)) (hr : RdU w w.heap.size A n l)
 (hr0 : -9223372036854775808 ≤ root) (hr1 : root ≤ 9223372036854775807) (hc0 : 0 ≤ cap) (hc1 : cap ≤ 18446744073709551615) (hok : ∀ x ∈ l, 0 ≤ x ∧ x ≤ 18446744073709551615) (h48 : n ≤ 1000) (htab : PowTab w) :
 Calls Tryz.prog 15 #[.int .i64 root, .agg #[.pointer (some ⟨b, 0, none⟩), .pointer none, .pointer none]] w fun e w' => e = .returned (.string (str (thingP root #[113, 117, 101, 117, 101].toList cap (l.map dec)))) ∧ Below w.heap.size w w' := by
 obtain ⟨i0, hi0, hy0, hy1, hy2⟩ := info_parts info_str
 have HR := Lib.hid hr
 have HLl := Lib.hid hr.u64Len
 have HK := Lib.hid hok
 have HT := Lib.hid htab
 have HRt := Lib.hid (And.intro hr0 hr1)
 have HCp := Lib.hid (And.intro hc0 hc1)
 have HBX : Hid (Bk (w.alloc (.cells #[.pointer (some ⟨b, 0, none⟩), .pointer none, .pointer none] 75)) w.heap.size 75 #[.pointer (some ⟨b, 0, none⟩), .pointer none, .pointer none]) := Bk.new w _ _
 have HB1 : Hid (Below w.heap.size w (w.alloc (.cells #[.pointer (some ⟨b, 0, none⟩), .pointer none, .pointer none] 75))) := (Below.refl _ _).alloc (Nat.le_refl _) _
 clear hr hok htab hr0 hr1 hc0 hc1
 go_enter Tryz.func15, Tryz.ntmps15
 go_wp2_with fail
 obtain ⟨W1, hW1⟩ : ∃ W1, w.alloc (.cells #[.pointer (some ⟨b, 0, none⟩), .pointer none, .pointer none] 75) = W1 := ⟨_, rfl⟩
 rw [hW1] at HBX HB1 ⊢
 clear hW1
 have hz1 := HB1.out.size
 have d0 := HBX.out.cell 0
 simp at d0
 have d1 := (HB1.out.cell (p := ⟨b, 0, none⟩) hb).trans c0
 have d2 := (HB1.out.cell (p := ⟨b, 1, none⟩) hb).trans c1
 have e0 : W1.drew.cell? ⟨w.heap.size, 0, none⟩ = some (.pointer (some ⟨b, 0, none⟩)) := d0
 have e1 : W1.drew.cell? ⟨b, 0, none⟩ = some (.int .u64 cap) := d1
 have e2 : W1.drew.cell? ⟨b, 1, none⟩ = some (.slice A n c) := d2
 have HTd : Hid (PowTab W1.drew) := HT.out.below HB1.out.drew
 have HBd := Lib.hid ((Below.refl W1.heap.size W1).drew)
 have hzd : W1.heap.size ≤ W1.drew.heap.size := Nat.le_refl _
 have hlt0 := HBX.out.lt
 have hltb : b < W1.heap.size := by omega
 obtain ⟨C, hC⟩ : ∃ C, str (dec cap) = C := ⟨_, rfl⟩
 have HC := Lib.hid hC
 clear hC c0 c1
 have hn6 : n ≤ 1000000 := by omega
 have hone : ∀ u ∈ l.map decV, u.oneCell' = true := by
  intro u hu
  obtain ⟨x, _, rfl⟩ := List.mem_map.1 hu
  rfl
 have h63 : 3 + l.length ≤ maxLen := by rw [HLl.out]; unfold maxLen; omega
 have hby : (3 + l.length) * 16 ≤ 140737488355328 := by rw [HLl.out]; omega
 go_region_held3 (fun w' => w'.cell? ⟨w.heap.size, 0, none⟩ = some (.pointer (some ⟨b, 0, none⟩)) ∧ w'.cell? ⟨b, 0, none⟩ = some (.int .u64 cap) ∧ w'.cell? ⟨b, 1, none⟩ = some (.slice A n c))
  (first | exact ⟨g0, g1, g2⟩ | exact ⟨f0, f1, f2⟩ | exact ⟨e0, e1, e2⟩ | exact ⟨d0, d1, d2⟩ | go_keep)
  (first
    | (go_at_call 35
       refine (num_any cap HCp.out.1 HCp.out.2 _ HTd.out).mono ?_
       rintro e wn ⟨rfl, hbn⟩
       rw [HC.out]
       have HTd := Lib.hid (HTd.out.below hbn)
       have HBd := Lib.hid (HBd.out.trans (hbn.mono hzd))
       have hzd := HBd.out.size
       have e0 := (hbn.cell (p := ⟨w.heap.size, 0, none⟩) (World.block_lt_of_cell? _ _ e0)).trans e0
       have e1 := (hbn.cell (p := ⟨b, 0, none⟩) (World.block_lt_of_cell? _ _ e1)).trans e1
       have e2 := (hbn.cell (p := ⟨b, 1, none⟩) (World.block_lt_of_cell? _ _ e2)).trans e2
       have HOw : Hid ((wn.alloc (.cells #[.string ⟨#[113, 117, 101, 117, 101]⟩, .string C, .string ⟨#[58]⟩] 9)).ownsRow wn.heap.size 9 1 (.slice (some ⟨wn.heap.size, 0, none⟩) 3 3) 3 [.string ⟨#[113, 117, 101, 117, 101]⟩, .string C, .string ⟨#[58]⟩]) := own_new wn _ _ (size := 1) (m := 3) rfl (by simp [maxLen]) (Nat.le_refl _)
       have HBa := Lib.hid (HB1.out.trans ((HBd.out.alloc hzd (.cells #[.string ⟨#[113, 117, 101, 117, 101]⟩, .string C, .string ⟨#[58]⟩] 9)).mono hz1))
       have HRn : Hid (RdU (wn.alloc (.cells #[.string ⟨#[113, 117, 101, 117, 101]⟩, .string C, .string ⟨#[58]⟩] 9)) (wn.alloc (.cells #[.string ⟨#[113, 117, 101, 117, 101]⟩, .string C, .string ⟨#[58]⟩] 9)).heap.size A n l) := (HR.out.below HBa.out).more HBa.out.size
       have HRn0 : Hid (RdU wn wn.heap.size A n l) := (HR.out.below (HB1.out.trans (HBd.out.mono hz1))).more (HB1.out.trans (HBd.out.mono hz1)).size
       have HTn : Hid (PowTab (wn.alloc (.cells #[.string ⟨#[113, 117, 101, 117, 101]⟩, .string C, .string ⟨#[58]⟩] 9))) := HT.out.below HBa.out
       clear hbn)
    | (go_at_call 36
       refine (each_any l _ _ _ _ HRn0.out HK.out hn6 HTd.out).mono ?_
       rintro e wm ⟨vm, rfl, hom, hbm⟩
       obtain ⟨Am, cm, rfl, hcm, hrm⟩ := Rd.of_own_cap hom
       have HRq := Lib.hid (hrm.alloc (Nat.le_refl _) (.cells #[.string ⟨#[113, 117, 101, 117, 101]⟩, .string C, .string ⟨#[58]⟩] 9))
       have HOq : Hid ((wm.alloc (.cells #[.string ⟨#[113, 117, 101, 117, 101]⟩, .string C, .string ⟨#[58]⟩] 9)).ownsRow wm.heap.size 9 1 (.slice (some ⟨wm.heap.size, 0, none⟩) 3 3) 3 [.string ⟨#[113, 117, 101, 117, 101]⟩, .string C, .string ⟨#[58]⟩]) := own_new wm _ _ (size := 1) (m := 3) rfl (by simp [maxLen]) (Nat.le_refl _)
       have HBq := Lib.hid (HBd.out.trans (hbm.mono hzd))
       have hzq := HBq.out.size
       have hzq2 : wm.heap.size ≤ (wm.alloc (.cells #[.string ⟨#[113, 117, 101, 117, 101]⟩, .string C, .string ⟨#[58]⟩] 9)).heap.size := by rw [World.size_alloc]; omega
       have f0 := (hbm.cell (p := ⟨w.heap.size, 0, none⟩) (World.block_lt_of_cell? _ _ e0)).trans e0
       have f1 := (hbm.cell (p := ⟨b, 0, none⟩) (World.block_lt_of_cell? _ _ e1)).trans e1
       have f2 := (hbm.cell (p := ⟨b, 1, none⟩) (World.block_lt_of_cell? _ _ e2)).trans e2
       clear hbm hom hrm)
    | (go_at_call 36
       refine (each_any l _ _ _ _ HRn.out HK.out hn6 HTn.out).mono ?_
       rintro e wm ⟨vm, rfl, hom, hbm⟩
       obtain ⟨Am, cm, rfl, hcm, hrm⟩ := Rd.of_own_cap hom
       have HRm := Lib.hid hrm
       have HOm := Lib.hid (own_below HOw.out hbm)
       have HBm := Lib.hid ((HBd.out.alloc hzd (.cells #[.string ⟨#[113, 117, 101, 117, 101]⟩, .string C, .string ⟨#[58]⟩] 9)).trans (hbm.mono (by rw [World.size_alloc]; omega)))
       have hzm := HBm.out.size
       have hzn : wn.heap.size ≤ wm.heap.size := by have := hbm.size; rw [World.size_alloc] at this; omega
       have f1 := (hbm.cell (p := ⟨b, 0, none⟩) (by have := World.block_lt_of_cell? _ _ e1; rw [World.size_alloc]; omega)).trans ((World.cell?_alloc_old _ _ _ (Nat.ne_of_lt (World.block_lt_of_cell? _ _ e1))).trans e1)
       have f2 := (hbm.cell (p := ⟨b, 1, none⟩) (by have := World.block_lt_of_cell? _ _ e2; rw [World.size_alloc]; omega)).trans ((World.cell?_alloc_old _ _ _ (Nat.ne_of_lt (World.block_lt_of_cell? _ _ e2))).trans e2)
       have f0 := (hbm.cell (p := ⟨w.heap.size, 0, none⟩) (by have := World.block_lt_of_cell? _ _ e0; rw [World.size_alloc]; omega)).trans ((World.cell?_alloc_old _ _ _ (Nat.ne_of_lt (World.block_lt_of_cell? _ _ e0))).trans e0)
       clear hbm hom hrm)
    | (refine step_app _ (by rfl) _ _ _ (by rfl) wm.heap.size 9 i0 _ 1 16 Tryz.underlying67 hi0 hy0 hy1 hy2 rfl (by decide) (.slice (some ⟨wm.heap.size, 0, none⟩) 3 3) 3 [.string ⟨#[113, 117, 101, 117, 101]⟩, .string C, .string ⟨#[58]⟩] (by rfl) HOq.out wm.heap.size Am l.length cm (l.map decV) (by rfl) HRq.out hone h63 hby hzq2 ?_
       intro v5 w5 hown5 hg5 _
       have hb5 := below_own (HBq.out.alloc hzq _) HOq.out hg5 hzq (Nat.le_trans hzq hzq2)
       have g0 := (hb5.cell (p := ⟨w.heap.size, 0, none⟩) hlt0).trans d0
       have g1 := (hb5.cell (p := ⟨b, 0, none⟩) hltb).trans d1
       have g2 := (hb5.cell (p := ⟨b, 1, none⟩) hltb).trans d2)
    | (refine step_app _ (by rfl) _ _ _ (by rfl) wn.heap.size 9 i0 _ 1 16 Tryz.underlying67 hi0 hy0 hy1 hy2 rfl (by decide) (.slice (some ⟨wn.heap.size, 0, none⟩) 3 3) 3 [.string ⟨#[113, 117, 101, 117, 101]⟩, .string C, .string ⟨#[58]⟩] (by rfl) HOm.out wm.heap.size Am l.length cm (l.map decV) (by rfl) HRm.out hone h63 hby hzn ?_
       intro v5 w5 hown5 hg5 _
       have hb5 := below_own HBm.out HOm.out hg5 hzd hzm
       have g0 := (hb5.cell (p := ⟨w.heap.size, 0, none⟩) hlt0).trans d0
       have g1 := (hb5.cell (p := ⟨b, 0, none⟩) hltb).trans d1
       have g2 := (hb5.cell (p := ⟨b, 1, none⟩) hltb).trans d2))
 all_goals
  have HB5 := Lib.hid (HB1.out.trans (hb5.mono hz1))
  obtain ⟨A5, c5, hv5, _, hr5⟩ := Rd.of_own_cap hown5
  subst hv5
  have HR5 := Lib.hid hr5
  have hz5 := HB5.out.size
  clear hb5 hown5 hg5 g0 g1 g2 f0 f1 f2 e0 e1 e2 d0 d1 d2 hr5
  obtain ⟨I, hI⟩ : ∃ I, str (Lib.itoa root) = I := ⟨_, rfl⟩
  have HI := Lib.hid hI
  clear hI
  go_wp2_with fail
  refine (itoa_any root HRt.out.1 HRt.out.2 _ (HT.out.below HB5.out)).mono ?_
  rintro e w6 ⟨rfl, hb6⟩
  rw [HI.out]
  have HB6 := Lib.hid (HB5.out.trans (hb6.mono hz5))
  have hz6 := HB6.out.size
  have HR6 := Lib.hid ((HR5.out.below hb6).more hb6.size)
  have HOw6 : Hid ((w6.alloc (.cells #[.string I] 9)).ownsRow w6.heap.size 9 1 (.slice (some ⟨w6.heap.size, 0, none⟩) 1 1) 1 [.string I]) := own_new w6 _ _ (size := 1) (m := 1) rfl (by simp [maxLen]) (Nat.le_refl _)
  clear hb6
  go_wp2_with (at_builtin; refine wpList_app _ (by rfl) (.tmp 64) (.tmp 65) 67 (by rfl) w6.heap.size 9 i0 _ 1 16 Tryz.underlying67 hi0 hy0 hy1 hy2 rfl (by decide) (.slice (some ⟨w6.heap.size, 0, none⟩) 1 1) 1 [.string I] (by rfl) HOw6.out w6.heap.size A5 (3 + l.length) c5 ([.string ⟨#[113, 117, 101, 117, 101]⟩, .string C, .string ⟨#[58]⟩] ++ l.map decV) (by rfl) (HR6.out.alloc (Nat.le_refl _) _) (by intro u hu; rcases List.mem_append.1 hu with h | h; (simp at h; rcases h with rfl | rfl | rfl <;> rfl); (obtain ⟨x, _, rfl⟩ := List.mem_map.1 h; rfl)) (by rw [HLl.out]; unfold maxLen; omega) (by rw [HLl.out]; omega) (by rw [World.size_alloc]; omega) ?_)
  intro v7 w7 hown7 hg7 _
  obtain ⟨A7, c7, hv7, hc7, hr7⟩ := Rd.of_own_cap hown7
  subst hv7
  have HB7 := Lib.hid (below_own (HB6.out.alloc hz6 _) HOw6.out hg7 hz6 (by rw [World.size_alloc]; omega))
  have hz7 := HB7.out.size
  have HR7 : Hid (RdS w7 w7.heap.size A7 (1 + (3 + l.length)) ([I, ⟨#[113, 117, 101, 117, 101]⟩, C, ⟨#[58]⟩] ++ l.map fun u => str (dec u))) := by
   show Rd _ _ _ _ _ _
   have e : ([I, ⟨#[113, 117, 101, 117, 101]⟩, C, ⟨#[58]⟩] ++ l.map fun u => str (dec u)).map Value.string = [.string I] ++ ([.string ⟨#[113, 117, 101, 117, 101]⟩, .string C, .string ⟨#[58]⟩] ++ l.map decV) := by
    simp only [List.map_append, List.map_cons, List.map_nil, List.map_map]
    rfl
   rw [e]; exact hr7
  have HX : Hid (([I, ⟨#[113, 117, 101, 117, 101]⟩, C, ⟨#[58]⟩] ++ l.map fun u => str (dec u)).map (·.data.toList) = Lib.itoa root :: #[113, 117, 101, 117, 101].toList :: dec cap :: [58] :: l.map dec) := by
   show _ = _
   simp only [List.map_cons, List.map_map, ← HI.out, ← HC.out, str_list, List.cons_append, List.nil_append]
   congr 4
  have HLe : Hid ((Lib.join (Lib.itoa root :: #[113, 117, 101, 117, 101].toList :: dec cap :: [58] :: l.map dec) [32]).length ≤ 1000000) := thing_len root cap _ l HRt.out.1 HRt.out.2 HCp.out.2 (by decide) (by rw [HLl.out]; exact h48) (fun x hx => (HK.out x hx).2)
  clear hown7 hg7 hr7 HOw6
  go_wp2_with fail
  refine (line_any _ _ _ _ _ HR7.out (by omega) (by rw [HLl.out]; omega) hc7 (by rw [HX.out]; exact HLe.out)).mono ?_
  rintro e w8 ⟨rfl, hb8⟩
  rw [HX.out]
  have HB8 := Lib.hid (HB7.out.trans (hb8.mono hz7))
  clear hb8
  go_wp2
  go_ret
  exact ⟨rfl, HB8.out⟩
set_option maxRecDepth 100000 in
set_option maxHeartbeats 8000000 in
theorem thing_chain (root cap : Int) (l : List Int) (b : Nat) (A : Option Addr) (n c : Nat) (w : World) (hb : b < w.heap.size) (c0 : w.cell? ⟨b, 0, none⟩ = some (.int .u64 cap)) (c1 : w.cell? ⟨b, 1, none⟩ = some (.slice A n c)) (hr : RdU w w.heap.size A n l)
 (hr0 : -9223372036854775808 ≤ root) (hr1 : root ≤ 9223372036854775807) (hc0 : 0 ≤ cap) (hc1 : cap ≤ 18446744073709551615) (hok : ∀ x ∈ l, 0 ≤ x ∧ x ≤ 18446744073709551615) (h48 : n ≤ 1000) (htab : PowTab w) :
 Calls Tryz.prog 15 #[.int .i64 root, .agg #[.pointer none, .pointer (some ⟨b, 0, none⟩), .pointer none]] w fun e w' => e = .returned (.string (str (thingP root #[99, 104, 97, 105, 110].toList cap (l.map dec)))) ∧ Below w.heap.size w w' := by
 obtain ⟨i0, hi0, hy0, hy1, hy2⟩ := info_parts info_str
 have HR := Lib.hid hr
 have HLl := Lib.hid hr.u64Len
 have HK := Lib.hid hok
 have HT := Lib.hid htab
 have HRt := Lib.hid (And.intro hr0 hr1)
 have HCp := Lib.hid (And.intro hc0 hc1)
 have HBX : Hid (Bk (w.alloc (.cells #[.pointer none, .pointer (some ⟨b, 0, none⟩), .pointer none] 75)) w.heap.size 75 #[.pointer none, .pointer (some ⟨b, 0, none⟩), .pointer none]) := Bk.new w _ _
 have HB1 : Hid (Below w.heap.size w (w.alloc (.cells #[.pointer none, .pointer (some ⟨b, 0, none⟩), .pointer none] 75))) := (Below.refl _ _).alloc (Nat.le_refl _) _
 clear hr hok htab hr0 hr1 hc0 hc1
 go_enter Tryz.func15, Tryz.ntmps15
 go_wp2_with fail
 obtain ⟨W1, hW1⟩ : ∃ W1, w.alloc (.cells #[.pointer none, .pointer (some ⟨b, 0, none⟩), .pointer none] 75) = W1 := ⟨_, rfl⟩
 rw [hW1] at HBX HB1 ⊢
 clear hW1
 have hz1 := HB1.out.size
 have d0 := HBX.out.cell 1
 simp at d0
 have d1 := (HB1.out.cell (p := ⟨b, 0, none⟩) hb).trans c0
 have d2 := (HB1.out.cell (p := ⟨b, 1, none⟩) hb).trans c1
 have e0 : W1.drew.cell? ⟨w.heap.size, 1, none⟩ = some (.pointer (some ⟨b, 0, none⟩)) := d0
 have e1 : W1.drew.cell? ⟨b, 0, none⟩ = some (.int .u64 cap) := d1
 have e2 : W1.drew.cell? ⟨b, 1, none⟩ = some (.slice A n c) := d2
 have HTd : Hid (PowTab W1.drew) := HT.out.below HB1.out.drew
 have HBd := Lib.hid ((Below.refl W1.heap.size W1).drew)
 have hzd : W1.heap.size ≤ W1.drew.heap.size := Nat.le_refl _
 have hlt0 := HBX.out.lt
 have hltb : b < W1.heap.size := by omega
 obtain ⟨C, hC⟩ : ∃ C, str (dec cap) = C := ⟨_, rfl⟩
 have HC := Lib.hid hC
 clear hC c0 c1
 have hn6 : n ≤ 1000000 := by omega
 have hone : ∀ u ∈ l.map decV, u.oneCell' = true := by
  intro u hu
  obtain ⟨x, _, rfl⟩ := List.mem_map.1 hu
  rfl
 have h63 : 3 + l.length ≤ maxLen := by rw [HLl.out]; unfold maxLen; omega
 have hby : (3 + l.length) * 16 ≤ 140737488355328 := by rw [HLl.out]; omega
 go_region_held3 (fun w' => w'.cell? ⟨w.heap.size, 1, none⟩ = some (.pointer (some ⟨b, 0, none⟩)) ∧ w'.cell? ⟨b, 0, none⟩ = some (.int .u64 cap) ∧ w'.cell? ⟨b, 1, none⟩ = some (.slice A n c))
  (first | exact ⟨g0, g1, g2⟩ | exact ⟨f0, f1, f2⟩ | exact ⟨e0, e1, e2⟩ | exact ⟨d0, d1, d2⟩ | go_keep)
  (first
    | (go_at_call 35
       refine (num_any cap HCp.out.1 HCp.out.2 _ HTd.out).mono ?_
       rintro e wn ⟨rfl, hbn⟩
       rw [HC.out]
       have HTd := Lib.hid (HTd.out.below hbn)
       have HBd := Lib.hid (HBd.out.trans (hbn.mono hzd))
       have hzd := HBd.out.size
       have e0 := (hbn.cell (p := ⟨w.heap.size, 1, none⟩) (World.block_lt_of_cell? _ _ e0)).trans e0
       have e1 := (hbn.cell (p := ⟨b, 0, none⟩) (World.block_lt_of_cell? _ _ e1)).trans e1
       have e2 := (hbn.cell (p := ⟨b, 1, none⟩) (World.block_lt_of_cell? _ _ e2)).trans e2
       have HOw : Hid ((wn.alloc (.cells #[.string ⟨#[99, 104, 97, 105, 110]⟩, .string C, .string ⟨#[58]⟩] 9)).ownsRow wn.heap.size 9 1 (.slice (some ⟨wn.heap.size, 0, none⟩) 3 3) 3 [.string ⟨#[99, 104, 97, 105, 110]⟩, .string C, .string ⟨#[58]⟩]) := own_new wn _ _ (size := 1) (m := 3) rfl (by simp [maxLen]) (Nat.le_refl _)
       have HBa := Lib.hid (HB1.out.trans ((HBd.out.alloc hzd (.cells #[.string ⟨#[99, 104, 97, 105, 110]⟩, .string C, .string ⟨#[58]⟩] 9)).mono hz1))
       have HRn : Hid (RdU (wn.alloc (.cells #[.string ⟨#[99, 104, 97, 105, 110]⟩, .string C, .string ⟨#[58]⟩] 9)) (wn.alloc (.cells #[.string ⟨#[99, 104, 97, 105, 110]⟩, .string C, .string ⟨#[58]⟩] 9)).heap.size A n l) := (HR.out.below HBa.out).more HBa.out.size
       have HRn0 : Hid (RdU wn wn.heap.size A n l) := (HR.out.below (HB1.out.trans (HBd.out.mono hz1))).more (HB1.out.trans (HBd.out.mono hz1)).size
       have HTn : Hid (PowTab (wn.alloc (.cells #[.string ⟨#[99, 104, 97, 105, 110]⟩, .string C, .string ⟨#[58]⟩] 9))) := HT.out.below HBa.out
       clear hbn)
    | (go_at_call 36
       refine (each_any l _ _ _ _ HRn0.out HK.out hn6 HTd.out).mono ?_
       rintro e wm ⟨vm, rfl, hom, hbm⟩
       obtain ⟨Am, cm, rfl, hcm, hrm⟩ := Rd.of_own_cap hom
       have HRq := Lib.hid (hrm.alloc (Nat.le_refl _) (.cells #[.string ⟨#[99, 104, 97, 105, 110]⟩, .string C, .string ⟨#[58]⟩] 9))
       have HOq : Hid ((wm.alloc (.cells #[.string ⟨#[99, 104, 97, 105, 110]⟩, .string C, .string ⟨#[58]⟩] 9)).ownsRow wm.heap.size 9 1 (.slice (some ⟨wm.heap.size, 0, none⟩) 3 3) 3 [.string ⟨#[99, 104, 97, 105, 110]⟩, .string C, .string ⟨#[58]⟩]) := own_new wm _ _ (size := 1) (m := 3) rfl (by simp [maxLen]) (Nat.le_refl _)
       have HBq := Lib.hid (HBd.out.trans (hbm.mono hzd))
       have hzq := HBq.out.size
       have hzq2 : wm.heap.size ≤ (wm.alloc (.cells #[.string ⟨#[99, 104, 97, 105, 110]⟩, .string C, .string ⟨#[58]⟩] 9)).heap.size := by rw [World.size_alloc]; omega
       have f0 := (hbm.cell (p := ⟨w.heap.size, 1, none⟩) (World.block_lt_of_cell? _ _ e0)).trans e0
       have f1 := (hbm.cell (p := ⟨b, 0, none⟩) (World.block_lt_of_cell? _ _ e1)).trans e1
       have f2 := (hbm.cell (p := ⟨b, 1, none⟩) (World.block_lt_of_cell? _ _ e2)).trans e2
       clear hbm hom hrm)
    | (go_at_call 36
       refine (each_any l _ _ _ _ HRn.out HK.out hn6 HTn.out).mono ?_
       rintro e wm ⟨vm, rfl, hom, hbm⟩
       obtain ⟨Am, cm, rfl, hcm, hrm⟩ := Rd.of_own_cap hom
       have HRm := Lib.hid hrm
       have HOm := Lib.hid (own_below HOw.out hbm)
       have HBm := Lib.hid ((HBd.out.alloc hzd (.cells #[.string ⟨#[99, 104, 97, 105, 110]⟩, .string C, .string ⟨#[58]⟩] 9)).trans (hbm.mono (by rw [World.size_alloc]; omega)))
       have hzm := HBm.out.size
       have hzn : wn.heap.size ≤ wm.heap.size := by have := hbm.size; rw [World.size_alloc] at this; omega
       have f1 := (hbm.cell (p := ⟨b, 0, none⟩) (by have := World.block_lt_of_cell? _ _ e1; rw [World.size_alloc]; omega)).trans ((World.cell?_alloc_old _ _ _ (Nat.ne_of_lt (World.block_lt_of_cell? _ _ e1))).trans e1)
       have f2 := (hbm.cell (p := ⟨b, 1, none⟩) (by have := World.block_lt_of_cell? _ _ e2; rw [World.size_alloc]; omega)).trans ((World.cell?_alloc_old _ _ _ (Nat.ne_of_lt (World.block_lt_of_cell? _ _ e2))).trans e2)
       have f0 := (hbm.cell (p := ⟨w.heap.size, 1, none⟩) (by have := World.block_lt_of_cell? _ _ e0; rw [World.size_alloc]; omega)).trans ((World.cell?_alloc_old _ _ _ (Nat.ne_of_lt (World.block_lt_of_cell? _ _ e0))).trans e0)
       clear hbm hom hrm)
    | (refine step_app _ (by rfl) _ _ _ (by rfl) wm.heap.size 9 i0 _ 1 16 Tryz.underlying67 hi0 hy0 hy1 hy2 rfl (by decide) (.slice (some ⟨wm.heap.size, 0, none⟩) 3 3) 3 [.string ⟨#[99, 104, 97, 105, 110]⟩, .string C, .string ⟨#[58]⟩] (by rfl) HOq.out wm.heap.size Am l.length cm (l.map decV) (by rfl) HRq.out hone h63 hby hzq2 ?_
       intro v5 w5 hown5 hg5 _
       have hb5 := below_own (HBq.out.alloc hzq _) HOq.out hg5 hzq (Nat.le_trans hzq hzq2)
       have g0 := (hb5.cell (p := ⟨w.heap.size, 1, none⟩) hlt0).trans d0
       have g1 := (hb5.cell (p := ⟨b, 0, none⟩) hltb).trans d1
       have g2 := (hb5.cell (p := ⟨b, 1, none⟩) hltb).trans d2)
    | (refine step_app _ (by rfl) _ _ _ (by rfl) wn.heap.size 9 i0 _ 1 16 Tryz.underlying67 hi0 hy0 hy1 hy2 rfl (by decide) (.slice (some ⟨wn.heap.size, 0, none⟩) 3 3) 3 [.string ⟨#[99, 104, 97, 105, 110]⟩, .string C, .string ⟨#[58]⟩] (by rfl) HOm.out wm.heap.size Am l.length cm (l.map decV) (by rfl) HRm.out hone h63 hby hzn ?_
       intro v5 w5 hown5 hg5 _
       have hb5 := below_own HBm.out HOm.out hg5 hzd hzm
       have g0 := (hb5.cell (p := ⟨w.heap.size, 1, none⟩) hlt0).trans d0
       have g1 := (hb5.cell (p := ⟨b, 0, none⟩) hltb).trans d1
       have g2 := (hb5.cell (p := ⟨b, 1, none⟩) hltb).trans d2))
 all_goals
  have HB5 := Lib.hid (HB1.out.trans (hb5.mono hz1))
  obtain ⟨A5, c5, hv5, _, hr5⟩ := Rd.of_own_cap hown5
  subst hv5
  have HR5 := Lib.hid hr5
  have hz5 := HB5.out.size
  clear hb5 hown5 hg5 g0 g1 g2 f0 f1 f2 e0 e1 e2 d0 d1 d2 hr5
  obtain ⟨I, hI⟩ : ∃ I, str (Lib.itoa root) = I := ⟨_, rfl⟩
  have HI := Lib.hid hI
  clear hI
  go_wp2_with fail
  refine (itoa_any root HRt.out.1 HRt.out.2 _ (HT.out.below HB5.out)).mono ?_
  rintro e w6 ⟨rfl, hb6⟩
  rw [HI.out]
  have HB6 := Lib.hid (HB5.out.trans (hb6.mono hz5))
  have hz6 := HB6.out.size
  have HR6 := Lib.hid ((HR5.out.below hb6).more hb6.size)
  have HOw6 : Hid ((w6.alloc (.cells #[.string I] 9)).ownsRow w6.heap.size 9 1 (.slice (some ⟨w6.heap.size, 0, none⟩) 1 1) 1 [.string I]) := own_new w6 _ _ (size := 1) (m := 1) rfl (by simp [maxLen]) (Nat.le_refl _)
  clear hb6
  go_wp2_with (at_builtin; refine wpList_app _ (by rfl) (.tmp 64) (.tmp 65) 67 (by rfl) w6.heap.size 9 i0 _ 1 16 Tryz.underlying67 hi0 hy0 hy1 hy2 rfl (by decide) (.slice (some ⟨w6.heap.size, 0, none⟩) 1 1) 1 [.string I] (by rfl) HOw6.out w6.heap.size A5 (3 + l.length) c5 ([.string ⟨#[99, 104, 97, 105, 110]⟩, .string C, .string ⟨#[58]⟩] ++ l.map decV) (by rfl) (HR6.out.alloc (Nat.le_refl _) _) (by intro u hu; rcases List.mem_append.1 hu with h | h; (simp at h; rcases h with rfl | rfl | rfl <;> rfl); (obtain ⟨x, _, rfl⟩ := List.mem_map.1 h; rfl)) (by rw [HLl.out]; unfold maxLen; omega) (by rw [HLl.out]; omega) (by rw [World.size_alloc]; omega) ?_)
  intro v7 w7 hown7 hg7 _
  obtain ⟨A7, c7, hv7, hc7, hr7⟩ := Rd.of_own_cap hown7
  subst hv7
  have HB7 := Lib.hid (below_own (HB6.out.alloc hz6 _) HOw6.out hg7 hz6 (by rw [World.size_alloc]; omega))
  have hz7 := HB7.out.size
  have HR7 : Hid (RdS w7 w7.heap.size A7 (1 + (3 + l.length)) ([I, ⟨#[99, 104, 97, 105, 110]⟩, C, ⟨#[58]⟩] ++ l.map fun u => str (dec u))) := by
   show Rd _ _ _ _ _ _
   have e : ([I, ⟨#[99, 104, 97, 105, 110]⟩, C, ⟨#[58]⟩] ++ l.map fun u => str (dec u)).map Value.string = [.string I] ++ ([.string ⟨#[99, 104, 97, 105, 110]⟩, .string C, .string ⟨#[58]⟩] ++ l.map decV) := by
    simp only [List.map_append, List.map_cons, List.map_nil, List.map_map]
    rfl
   rw [e]; exact hr7
  have HX : Hid (([I, ⟨#[99, 104, 97, 105, 110]⟩, C, ⟨#[58]⟩] ++ l.map fun u => str (dec u)).map (·.data.toList) = Lib.itoa root :: #[99, 104, 97, 105, 110].toList :: dec cap :: [58] :: l.map dec) := by
   show _ = _
   simp only [List.map_cons, List.map_map, ← HI.out, ← HC.out, str_list, List.cons_append, List.nil_append]
   congr 4
  have HLe : Hid ((Lib.join (Lib.itoa root :: #[99, 104, 97, 105, 110].toList :: dec cap :: [58] :: l.map dec) [32]).length ≤ 1000000) := thing_len root cap _ l HRt.out.1 HRt.out.2 HCp.out.2 (by decide) (by rw [HLl.out]; exact h48) (fun x hx => (HK.out x hx).2)
  clear hown7 hg7 hr7 HOw6
  go_wp2_with fail
  refine (line_any _ _ _ _ _ HR7.out (by omega) (by rw [HLl.out]; omega) hc7 (by rw [HX.out]; exact HLe.out)).mono ?_
  rintro e w8 ⟨rfl, hb8⟩
  rw [HX.out]
  have HB8 := Lib.hid (HB7.out.trans (hb8.mono hz7))
  clear hb8
  go_wp2
  go_ret
  exact ⟨rfl, HB8.out⟩
end Go.Proofs.YtiiaingepbkikaaGreatDoor
