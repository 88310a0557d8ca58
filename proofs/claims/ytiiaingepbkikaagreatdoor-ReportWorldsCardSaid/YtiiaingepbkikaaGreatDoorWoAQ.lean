import Derived.Test.YtiiaingepbkikaaGreatDoorWoAG
import Derived.Test.YtiiaingepbkikaaGreatDoorWoAH
import Derived.Test.YtiiaingepbkikaaGreatDoorShelf
namespace Go.Proofs.YtiiaingepbkikaaGreatDoor
open Go.RowKit
set_option linter.unusedVariables false
set_option linter.unusedSimpArgs false
def CutPost (a b : ByteArray) (w : World) (e : Ending) (w' : World) : Prop := e = .returned (.tuple #[.string a, .string b, .bool true]) ∧ Below w.heap.size w w'
set_option maxRecDepth 100000 in
theorem cutl_0 (w : World) : Calls Tryz.prog 42 #[.string ⟨#[113, 117, 101, 117, 101, 46, 110, 101, 119]⟩, .string ⟨#[46]⟩] w (CutPost ⟨#[113, 117, 101, 117, 101]⟩ ⟨#[110, 101, 119]⟩ w) := by
 have hs1 : ∀ W, (Instr.sliceAt 9 (.string ⟨#[113, 117, 101, 117, 101, 46, 110, 101, 119]⟩) none (some (.int .i64 5)) none).run Tryz.prog W = .ok (.string ⟨#[113, 117, 101, 117, 101]⟩) W := fun W => by kernel_rfl
 have hs2 : ∀ W, (Instr.sliceAt 9 (.string ⟨#[113, 117, 101, 117, 101, 46, 110, 101, 119]⟩) (some (.int .i64 6)) none none).run Tryz.prog W = .ok (.string ⟨#[110, 101, 119]⟩) W := fun W => by kernel_rfl
 have hx : Lib.indexByte (⟨#[113, 117, 101, 117, 101, 46, 110, 101, 119]⟩ : ByteArray).data.toList 46 = 5 := by decide
 have hw : IntKind.i64.wrap 6 = 6 := by rw [IntKind.wrap_i64]; omega
 go_enter Tryz.func42, Tryz.ntmps42
 go_wp2_with fail
 refine (Tryz.stringslite_Index_one ⟨#[113, 117, 101, 117, 101, 46, 110, 101, 119]⟩ 46 _).mono ?_
 rintro e w1 ⟨he, hw1⟩
 rw [hx] at he
 rw [he, hw1]
 clear he hw1 hx
 go_wp2_with fail
 refine wp_region_held_drew (S := (fun _ => True)) (by kernel_rfl) ?_ (fun hHeld => ?_)
 ·trivial
 refine takeA 0 ?_
 try simp only [Act.put, pS]
 refine takeA 1 ?_
 try simp only [Act.put, pS]
 refine takeA 2 ?_
 try simp only [Act.put, pS]
 refine takeA 3 ?_
 try simp only [Act.put, pS]
 refine takeA 4 ?_
 try simp only [Act.put, pS]
 refine takeA 5 ?_
 try simp only [Act.put, pS]
 refine takeA 6 ?_
 try simp only [Act.put, pS]
 refine takeA 7 ?_
 try simp only [Act.put, pS]
 refine takeA 8 ?_
 try simp only [Act.put, pS]
 refine takeA 9 ?_
 try simp only [Act.put, pS]
 refine takeA 10 ?_
 try simp only [Act.put, pS]
 refine takeA 11 ?_
 try simp only [Act.put, pS]
 refine wpAnyH_done (by kernel_rfl) ?_ _
 try simp only [Act.put, pS]
 go_wp2
 refine bodyPost_ret (results_tmp3 rfl _ _ _) rfl ?_
 exact ⟨rfl, (Below.refl _ _).drew⟩
theorem scut_0 (w : World) : Calls Tryz.prog 19 #[.string ⟨#[113, 117, 101, 117, 101, 46, 110, 101, 119]⟩, .string ⟨#[46]⟩] w (CutPost ⟨#[113, 117, 101, 117, 101]⟩ ⟨#[110, 101, 119]⟩ w) := by
 go_enter Tryz.func19, Tryz.ntmps19
 go_wp2_with fail
 refine (cutl_0 w).mono ?_
 rintro e w1 ⟨rfl, hb1⟩
 go_wp2
 refine bodyPost_ret (results_tmp3 rfl _ _ _) rfl ?_
 exact ⟨rfl, hb1⟩
set_option maxRecDepth 100000 in
theorem cutl_1 (w : World) : Calls Tryz.prog 42 #[.string ⟨#[113, 117, 101, 117, 101, 46, 112, 117, 116]⟩, .string ⟨#[46]⟩] w (CutPost ⟨#[113, 117, 101, 117, 101]⟩ ⟨#[112, 117, 116]⟩ w) := by
 have hs1 : ∀ W, (Instr.sliceAt 9 (.string ⟨#[113, 117, 101, 117, 101, 46, 112, 117, 116]⟩) none (some (.int .i64 5)) none).run Tryz.prog W = .ok (.string ⟨#[113, 117, 101, 117, 101]⟩) W := fun W => by kernel_rfl
 have hs2 : ∀ W, (Instr.sliceAt 9 (.string ⟨#[113, 117, 101, 117, 101, 46, 112, 117, 116]⟩) (some (.int .i64 6)) none none).run Tryz.prog W = .ok (.string ⟨#[112, 117, 116]⟩) W := fun W => by kernel_rfl
 have hx : Lib.indexByte (⟨#[113, 117, 101, 117, 101, 46, 112, 117, 116]⟩ : ByteArray).data.toList 46 = 5 := by decide
 have hw : IntKind.i64.wrap 6 = 6 := by rw [IntKind.wrap_i64]; omega
 go_enter Tryz.func42, Tryz.ntmps42
 go_wp2_with fail
 refine (Tryz.stringslite_Index_one ⟨#[113, 117, 101, 117, 101, 46, 112, 117, 116]⟩ 46 _).mono ?_
 rintro e w1 ⟨he, hw1⟩
 rw [hx] at he
 rw [he, hw1]
 clear he hw1 hx
 go_wp2_with fail
 refine wp_region_held_drew (S := (fun _ => True)) (by kernel_rfl) ?_ (fun hHeld => ?_)
 ·trivial
 refine takeA 0 ?_
 try simp only [Act.put, pS]
 refine takeA 1 ?_
 try simp only [Act.put, pS]
 refine takeA 2 ?_
 try simp only [Act.put, pS]
 refine takeA 3 ?_
 try simp only [Act.put, pS]
 refine takeA 4 ?_
 try simp only [Act.put, pS]
 refine takeA 5 ?_
 try simp only [Act.put, pS]
 refine takeA 6 ?_
 try simp only [Act.put, pS]
 refine takeA 7 ?_
 try simp only [Act.put, pS]
 refine takeA 8 ?_
 try simp only [Act.put, pS]
 refine takeA 9 ?_
 try simp only [Act.put, pS]
 refine takeA 10 ?_
 try simp only [Act.put, pS]
 refine takeA 11 ?_
 try simp only [Act.put, pS]
 refine wpAnyH_done (by kernel_rfl) ?_ _
 try simp only [Act.put, pS]
 go_wp2
 refine bodyPost_ret (results_tmp3 rfl _ _ _) rfl ?_
 exact ⟨rfl, (Below.refl _ _).drew⟩
theorem scut_1 (w : World) : Calls Tryz.prog 19 #[.string ⟨#[113, 117, 101, 117, 101, 46, 112, 117, 116]⟩, .string ⟨#[46]⟩] w (CutPost ⟨#[113, 117, 101, 117, 101]⟩ ⟨#[112, 117, 116]⟩ w) := by
 go_enter Tryz.func19, Tryz.ntmps19
 go_wp2_with fail
 refine (cutl_1 w).mono ?_
 rintro e w1 ⟨rfl, hb1⟩
 go_wp2
 refine bodyPost_ret (results_tmp3 rfl _ _ _) rfl ?_
 exact ⟨rfl, hb1⟩
set_option maxRecDepth 100000 in
theorem cutl_2 (w : World) : Calls Tryz.prog 42 #[.string ⟨#[113, 117, 101, 117, 101, 46, 116, 97, 107, 101]⟩, .string ⟨#[46]⟩] w (CutPost ⟨#[113, 117, 101, 117, 101]⟩ ⟨#[116, 97, 107, 101]⟩ w) := by
 have hs1 : ∀ W, (Instr.sliceAt 9 (.string ⟨#[113, 117, 101, 117, 101, 46, 116, 97, 107, 101]⟩) none (some (.int .i64 5)) none).run Tryz.prog W = .ok (.string ⟨#[113, 117, 101, 117, 101]⟩) W := fun W => by kernel_rfl
 have hs2 : ∀ W, (Instr.sliceAt 9 (.string ⟨#[113, 117, 101, 117, 101, 46, 116, 97, 107, 101]⟩) (some (.int .i64 6)) none none).run Tryz.prog W = .ok (.string ⟨#[116, 97, 107, 101]⟩) W := fun W => by kernel_rfl
 have hx : Lib.indexByte (⟨#[113, 117, 101, 117, 101, 46, 116, 97, 107, 101]⟩ : ByteArray).data.toList 46 = 5 := by decide
 have hw : IntKind.i64.wrap 6 = 6 := by rw [IntKind.wrap_i64]; omega
 go_enter Tryz.func42, Tryz.ntmps42
 go_wp2_with fail
 refine (Tryz.stringslite_Index_one ⟨#[113, 117, 101, 117, 101, 46, 116, 97, 107, 101]⟩ 46 _).mono ?_
 rintro e w1 ⟨he, hw1⟩
 rw [hx] at he
 rw [he, hw1]
 clear he hw1 hx
 go_wp2_with fail
 refine wp_region_held_drew (S := (fun _ => True)) (by kernel_rfl) ?_ (fun hHeld => ?_)
 ·trivial
 refine takeA 0 ?_
 try simp only [Act.put, pS]
 refine takeA 1 ?_
 try simp only [Act.put, pS]
 refine takeA 2 ?_
 try simp only [Act.put, pS]
 refine takeA 3 ?_
 try simp only [Act.put, pS]
 refine takeA 4 ?_
 try simp only [Act.put, pS]
 refine takeA 5 ?_
 try simp only [Act.put, pS]
 refine takeA 6 ?_
 try simp only [Act.put, pS]
 refine takeA 7 ?_
 try simp only [Act.put, pS]
 refine takeA 8 ?_
 try simp only [Act.put, pS]
 refine takeA 9 ?_
 try simp only [Act.put, pS]
 refine takeA 10 ?_
 try simp only [Act.put, pS]
 refine takeA 11 ?_
 try simp only [Act.put, pS]
 refine wpAnyH_done (by kernel_rfl) ?_ _
 try simp only [Act.put, pS]
 go_wp2
 refine bodyPost_ret (results_tmp3 rfl _ _ _) rfl ?_
 exact ⟨rfl, (Below.refl _ _).drew⟩
theorem scut_2 (w : World) : Calls Tryz.prog 19 #[.string ⟨#[113, 117, 101, 117, 101, 46, 116, 97, 107, 101]⟩, .string ⟨#[46]⟩] w (CutPost ⟨#[113, 117, 101, 117, 101]⟩ ⟨#[116, 97, 107, 101]⟩ w) := by
 go_enter Tryz.func19, Tryz.ntmps19
 go_wp2_with fail
 refine (cutl_2 w).mono ?_
 rintro e w1 ⟨rfl, hb1⟩
 go_wp2
 refine bodyPost_ret (results_tmp3 rfl _ _ _) rfl ?_
 exact ⟨rfl, hb1⟩
set_option maxRecDepth 100000 in
theorem cutl_3 (w : World) : Calls Tryz.prog 42 #[.string ⟨#[113, 117, 101, 117, 101, 46, 112, 101, 101, 107]⟩, .string ⟨#[46]⟩] w (CutPost ⟨#[113, 117, 101, 117, 101]⟩ ⟨#[112, 101, 101, 107]⟩ w) := by
 have hs1 : ∀ W, (Instr.sliceAt 9 (.string ⟨#[113, 117, 101, 117, 101, 46, 112, 101, 101, 107]⟩) none (some (.int .i64 5)) none).run Tryz.prog W = .ok (.string ⟨#[113, 117, 101, 117, 101]⟩) W := fun W => by kernel_rfl
 have hs2 : ∀ W, (Instr.sliceAt 9 (.string ⟨#[113, 117, 101, 117, 101, 46, 112, 101, 101, 107]⟩) (some (.int .i64 6)) none none).run Tryz.prog W = .ok (.string ⟨#[112, 101, 101, 107]⟩) W := fun W => by kernel_rfl
 have hx : Lib.indexByte (⟨#[113, 117, 101, 117, 101, 46, 112, 101, 101, 107]⟩ : ByteArray).data.toList 46 = 5 := by decide
 have hw : IntKind.i64.wrap 6 = 6 := by rw [IntKind.wrap_i64]; omega
 go_enter Tryz.func42, Tryz.ntmps42
 go_wp2_with fail
 refine (Tryz.stringslite_Index_one ⟨#[113, 117, 101, 117, 101, 46, 112, 101, 101, 107]⟩ 46 _).mono ?_
 rintro e w1 ⟨he, hw1⟩
 rw [hx] at he
 rw [he, hw1]
 clear he hw1 hx
 go_wp2_with fail
 refine wp_region_held_drew (S := (fun _ => True)) (by kernel_rfl) ?_ (fun hHeld => ?_)
 ·trivial
 refine takeA 0 ?_
 try simp only [Act.put, pS]
 refine takeA 1 ?_
 try simp only [Act.put, pS]
 refine takeA 2 ?_
 try simp only [Act.put, pS]
 refine takeA 3 ?_
 try simp only [Act.put, pS]
 refine takeA 4 ?_
 try simp only [Act.put, pS]
 refine takeA 5 ?_
 try simp only [Act.put, pS]
 refine takeA 6 ?_
 try simp only [Act.put, pS]
 refine takeA 7 ?_
 try simp only [Act.put, pS]
 refine takeA 8 ?_
 try simp only [Act.put, pS]
 refine takeA 9 ?_
 try simp only [Act.put, pS]
 refine takeA 10 ?_
 try simp only [Act.put, pS]
 refine takeA 11 ?_
 try simp only [Act.put, pS]
 refine wpAnyH_done (by kernel_rfl) ?_ _
 try simp only [Act.put, pS]
 go_wp2
 refine bodyPost_ret (results_tmp3 rfl _ _ _) rfl ?_
 exact ⟨rfl, (Below.refl _ _).drew⟩
theorem scut_3 (w : World) : Calls Tryz.prog 19 #[.string ⟨#[113, 117, 101, 117, 101, 46, 112, 101, 101, 107]⟩, .string ⟨#[46]⟩] w (CutPost ⟨#[113, 117, 101, 117, 101]⟩ ⟨#[112, 101, 101, 107]⟩ w) := by
 go_enter Tryz.func19, Tryz.ntmps19
 go_wp2_with fail
 refine (cutl_3 w).mono ?_
 rintro e w1 ⟨rfl, hb1⟩
 go_wp2
 refine bodyPost_ret (results_tmp3 rfl _ _ _) rfl ?_
 exact ⟨rfl, hb1⟩
set_option maxRecDepth 100000 in
theorem cutl_4 (w : World) : Calls Tryz.prog 42 #[.string ⟨#[113, 117, 101, 117, 101, 46, 115, 105, 122, 101]⟩, .string ⟨#[46]⟩] w (CutPost ⟨#[113, 117, 101, 117, 101]⟩ ⟨#[115, 105, 122, 101]⟩ w) := by
 have hs1 : ∀ W, (Instr.sliceAt 9 (.string ⟨#[113, 117, 101, 117, 101, 46, 115, 105, 122, 101]⟩) none (some (.int .i64 5)) none).run Tryz.prog W = .ok (.string ⟨#[113, 117, 101, 117, 101]⟩) W := fun W => by kernel_rfl
 have hs2 : ∀ W, (Instr.sliceAt 9 (.string ⟨#[113, 117, 101, 117, 101, 46, 115, 105, 122, 101]⟩) (some (.int .i64 6)) none none).run Tryz.prog W = .ok (.string ⟨#[115, 105, 122, 101]⟩) W := fun W => by kernel_rfl
 have hx : Lib.indexByte (⟨#[113, 117, 101, 117, 101, 46, 115, 105, 122, 101]⟩ : ByteArray).data.toList 46 = 5 := by decide
 have hw : IntKind.i64.wrap 6 = 6 := by rw [IntKind.wrap_i64]; omega
 go_enter Tryz.func42, Tryz.ntmps42
 go_wp2_with fail
 refine (Tryz.stringslite_Index_one ⟨#[113, 117, 101, 117, 101, 46, 115, 105, 122, 101]⟩ 46 _).mono ?_
 rintro e w1 ⟨he, hw1⟩
 rw [hx] at he
 rw [he, hw1]
 clear he hw1 hx
 go_wp2_with fail
 refine wp_region_held_drew (S := (fun _ => True)) (by kernel_rfl) ?_ (fun hHeld => ?_)
 ·trivial
 refine takeA 0 ?_
 try simp only [Act.put, pS]
 refine takeA 1 ?_
 try simp only [Act.put, pS]
 refine takeA 2 ?_
 try simp only [Act.put, pS]
 refine takeA 3 ?_
 try simp only [Act.put, pS]
 refine takeA 4 ?_
 try simp only [Act.put, pS]
 refine takeA 5 ?_
 try simp only [Act.put, pS]
 refine takeA 6 ?_
 try simp only [Act.put, pS]
 refine takeA 7 ?_
 try simp only [Act.put, pS]
 refine takeA 8 ?_
 try simp only [Act.put, pS]
 refine takeA 9 ?_
 try simp only [Act.put, pS]
 refine takeA 10 ?_
 try simp only [Act.put, pS]
 refine takeA 11 ?_
 try simp only [Act.put, pS]
 refine wpAnyH_done (by kernel_rfl) ?_ _
 try simp only [Act.put, pS]
 go_wp2
 refine bodyPost_ret (results_tmp3 rfl _ _ _) rfl ?_
 exact ⟨rfl, (Below.refl _ _).drew⟩
theorem scut_4 (w : World) : Calls Tryz.prog 19 #[.string ⟨#[113, 117, 101, 117, 101, 46, 115, 105, 122, 101]⟩, .string ⟨#[46]⟩] w (CutPost ⟨#[113, 117, 101, 117, 101]⟩ ⟨#[115, 105, 122, 101]⟩ w) := by
 go_enter Tryz.func19, Tryz.ntmps19
 go_wp2_with fail
 refine (cutl_4 w).mono ?_
 rintro e w1 ⟨rfl, hb1⟩
 go_wp2
 refine bodyPost_ret (results_tmp3 rfl _ _ _) rfl ?_
 exact ⟨rfl, hb1⟩
set_option maxRecDepth 100000 in
theorem cutl_5 (w : World) : Calls Tryz.prog 42 #[.string ⟨#[113, 117, 101, 117, 101, 46, 100, 114, 111, 112]⟩, .string ⟨#[46]⟩] w (CutPost ⟨#[113, 117, 101, 117, 101]⟩ ⟨#[100, 114, 111, 112]⟩ w) := by
 have hs1 : ∀ W, (Instr.sliceAt 9 (.string ⟨#[113, 117, 101, 117, 101, 46, 100, 114, 111, 112]⟩) none (some (.int .i64 5)) none).run Tryz.prog W = .ok (.string ⟨#[113, 117, 101, 117, 101]⟩) W := fun W => by kernel_rfl
 have hs2 : ∀ W, (Instr.sliceAt 9 (.string ⟨#[113, 117, 101, 117, 101, 46, 100, 114, 111, 112]⟩) (some (.int .i64 6)) none none).run Tryz.prog W = .ok (.string ⟨#[100, 114, 111, 112]⟩) W := fun W => by kernel_rfl
 have hx : Lib.indexByte (⟨#[113, 117, 101, 117, 101, 46, 100, 114, 111, 112]⟩ : ByteArray).data.toList 46 = 5 := by decide
 have hw : IntKind.i64.wrap 6 = 6 := by rw [IntKind.wrap_i64]; omega
 go_enter Tryz.func42, Tryz.ntmps42
 go_wp2_with fail
 refine (Tryz.stringslite_Index_one ⟨#[113, 117, 101, 117, 101, 46, 100, 114, 111, 112]⟩ 46 _).mono ?_
 rintro e w1 ⟨he, hw1⟩
 rw [hx] at he
 rw [he, hw1]
 clear he hw1 hx
 go_wp2_with fail
 refine wp_region_held_drew (S := (fun _ => True)) (by kernel_rfl) ?_ (fun hHeld => ?_)
 ·trivial
 refine takeA 0 ?_
 try simp only [Act.put, pS]
 refine takeA 1 ?_
 try simp only [Act.put, pS]
 refine takeA 2 ?_
 try simp only [Act.put, pS]
 refine takeA 3 ?_
 try simp only [Act.put, pS]
 refine takeA 4 ?_
 try simp only [Act.put, pS]
 refine takeA 5 ?_
 try simp only [Act.put, pS]
 refine takeA 6 ?_
 try simp only [Act.put, pS]
 refine takeA 7 ?_
 try simp only [Act.put, pS]
 refine takeA 8 ?_
 try simp only [Act.put, pS]
 refine takeA 9 ?_
 try simp only [Act.put, pS]
 refine takeA 10 ?_
 try simp only [Act.put, pS]
 refine takeA 11 ?_
 try simp only [Act.put, pS]
 refine wpAnyH_done (by kernel_rfl) ?_ _
 try simp only [Act.put, pS]
 go_wp2
 refine bodyPost_ret (results_tmp3 rfl _ _ _) rfl ?_
 exact ⟨rfl, (Below.refl _ _).drew⟩
theorem scut_5 (w : World) : Calls Tryz.prog 19 #[.string ⟨#[113, 117, 101, 117, 101, 46, 100, 114, 111, 112]⟩, .string ⟨#[46]⟩] w (CutPost ⟨#[113, 117, 101, 117, 101]⟩ ⟨#[100, 114, 111, 112]⟩ w) := by
 go_enter Tryz.func19, Tryz.ntmps19
 go_wp2_with fail
 refine (cutl_5 w).mono ?_
 rintro e w1 ⟨rfl, hb1⟩
 go_wp2
 refine bodyPost_ret (results_tmp3 rfl _ _ _) rfl ?_
 exact ⟨rfl, hb1⟩
set_option maxRecDepth 100000 in
theorem cutl_6 (w : World) : Calls Tryz.prog 42 #[.string ⟨#[99, 104, 97, 105, 110, 46, 110, 101, 119]⟩, .string ⟨#[46]⟩] w (CutPost ⟨#[99, 104, 97, 105, 110]⟩ ⟨#[110, 101, 119]⟩ w) := by
 have hs1 : ∀ W, (Instr.sliceAt 9 (.string ⟨#[99, 104, 97, 105, 110, 46, 110, 101, 119]⟩) none (some (.int .i64 5)) none).run Tryz.prog W = .ok (.string ⟨#[99, 104, 97, 105, 110]⟩) W := fun W => by kernel_rfl
 have hs2 : ∀ W, (Instr.sliceAt 9 (.string ⟨#[99, 104, 97, 105, 110, 46, 110, 101, 119]⟩) (some (.int .i64 6)) none none).run Tryz.prog W = .ok (.string ⟨#[110, 101, 119]⟩) W := fun W => by kernel_rfl
 have hx : Lib.indexByte (⟨#[99, 104, 97, 105, 110, 46, 110, 101, 119]⟩ : ByteArray).data.toList 46 = 5 := by decide
 have hw : IntKind.i64.wrap 6 = 6 := by rw [IntKind.wrap_i64]; omega
 go_enter Tryz.func42, Tryz.ntmps42
 go_wp2_with fail
 refine (Tryz.stringslite_Index_one ⟨#[99, 104, 97, 105, 110, 46, 110, 101, 119]⟩ 46 _).mono ?_
 rintro e w1 ⟨he, hw1⟩
 rw [hx] at he
 rw [he, hw1]
 clear he hw1 hx
 go_wp2_with fail
 refine wp_region_held_drew (S := (fun _ => True)) (by kernel_rfl) ?_ (fun hHeld => ?_)
 ·trivial
 refine takeA 0 ?_
 try simp only [Act.put, pS]
 refine takeA 1 ?_
 try simp only [Act.put, pS]
 refine takeA 2 ?_
 try simp only [Act.put, pS]
 refine takeA 3 ?_
 try simp only [Act.put, pS]
 refine takeA 4 ?_
 try simp only [Act.put, pS]
 refine takeA 5 ?_
 try simp only [Act.put, pS]
 refine takeA 6 ?_
 try simp only [Act.put, pS]
 refine takeA 7 ?_
 try simp only [Act.put, pS]
 refine takeA 8 ?_
 try simp only [Act.put, pS]
 refine takeA 9 ?_
 try simp only [Act.put, pS]
 refine takeA 10 ?_
 try simp only [Act.put, pS]
 refine takeA 11 ?_
 try simp only [Act.put, pS]
 refine wpAnyH_done (by kernel_rfl) ?_ _
 try simp only [Act.put, pS]
 go_wp2
 refine bodyPost_ret (results_tmp3 rfl _ _ _) rfl ?_
 exact ⟨rfl, (Below.refl _ _).drew⟩
theorem scut_6 (w : World) : Calls Tryz.prog 19 #[.string ⟨#[99, 104, 97, 105, 110, 46, 110, 101, 119]⟩, .string ⟨#[46]⟩] w (CutPost ⟨#[99, 104, 97, 105, 110]⟩ ⟨#[110, 101, 119]⟩ w) := by
 go_enter Tryz.func19, Tryz.ntmps19
 go_wp2_with fail
 refine (cutl_6 w).mono ?_
 rintro e w1 ⟨rfl, hb1⟩
 go_wp2
 refine bodyPost_ret (results_tmp3 rfl _ _ _) rfl ?_
 exact ⟨rfl, hb1⟩
set_option maxRecDepth 100000 in
theorem cutl_7 (w : World) : Calls Tryz.prog 42 #[.string ⟨#[99, 104, 97, 105, 110, 46, 97, 100, 100]⟩, .string ⟨#[46]⟩] w (CutPost ⟨#[99, 104, 97, 105, 110]⟩ ⟨#[97, 100, 100]⟩ w) := by
 have hs1 : ∀ W, (Instr.sliceAt 9 (.string ⟨#[99, 104, 97, 105, 110, 46, 97, 100, 100]⟩) none (some (.int .i64 5)) none).run Tryz.prog W = .ok (.string ⟨#[99, 104, 97, 105, 110]⟩) W := fun W => by kernel_rfl
 have hs2 : ∀ W, (Instr.sliceAt 9 (.string ⟨#[99, 104, 97, 105, 110, 46, 97, 100, 100]⟩) (some (.int .i64 6)) none none).run Tryz.prog W = .ok (.string ⟨#[97, 100, 100]⟩) W := fun W => by kernel_rfl
 have hx : Lib.indexByte (⟨#[99, 104, 97, 105, 110, 46, 97, 100, 100]⟩ : ByteArray).data.toList 46 = 5 := by decide
 have hw : IntKind.i64.wrap 6 = 6 := by rw [IntKind.wrap_i64]; omega
 go_enter Tryz.func42, Tryz.ntmps42
 go_wp2_with fail
 refine (Tryz.stringslite_Index_one ⟨#[99, 104, 97, 105, 110, 46, 97, 100, 100]⟩ 46 _).mono ?_
 rintro e w1 ⟨he, hw1⟩
 rw [hx] at he
 rw [he, hw1]
 clear he hw1 hx
 go_wp2_with fail
 refine wp_region_held_drew (S := (fun _ => True)) (by kernel_rfl) ?_ (fun hHeld => ?_)
 ·trivial
 refine takeA 0 ?_
 try simp only [Act.put, pS]
 refine takeA 1 ?_
 try simp only [Act.put, pS]
 refine takeA 2 ?_
 try simp only [Act.put, pS]
 refine takeA 3 ?_
 try simp only [Act.put, pS]
 refine takeA 4 ?_
 try simp only [Act.put, pS]
 refine takeA 5 ?_
 try simp only [Act.put, pS]
 refine takeA 6 ?_
 try simp only [Act.put, pS]
 refine takeA 7 ?_
 try simp only [Act.put, pS]
 refine takeA 8 ?_
 try simp only [Act.put, pS]
 refine takeA 9 ?_
 try simp only [Act.put, pS]
 refine takeA 10 ?_
 try simp only [Act.put, pS]
 refine takeA 11 ?_
 try simp only [Act.put, pS]
 refine wpAnyH_done (by kernel_rfl) ?_ _
 try simp only [Act.put, pS]
 go_wp2
 refine bodyPost_ret (results_tmp3 rfl _ _ _) rfl ?_
 exact ⟨rfl, (Below.refl _ _).drew⟩
theorem scut_7 (w : World) : Calls Tryz.prog 19 #[.string ⟨#[99, 104, 97, 105, 110, 46, 97, 100, 100]⟩, .string ⟨#[46]⟩] w (CutPost ⟨#[99, 104, 97, 105, 110]⟩ ⟨#[97, 100, 100]⟩ w) := by
 go_enter Tryz.func19, Tryz.ntmps19
 go_wp2_with fail
 refine (cutl_7 w).mono ?_
 rintro e w1 ⟨rfl, hb1⟩
 go_wp2
 refine bodyPost_ret (results_tmp3 rfl _ _ _) rfl ?_
 exact ⟨rfl, hb1⟩
set_option maxRecDepth 100000 in
theorem cutl_8 (w : World) : Calls Tryz.prog 42 #[.string ⟨#[99, 104, 97, 105, 110, 46, 100, 101, 108]⟩, .string ⟨#[46]⟩] w (CutPost ⟨#[99, 104, 97, 105, 110]⟩ ⟨#[100, 101, 108]⟩ w) := by
 have hs1 : ∀ W, (Instr.sliceAt 9 (.string ⟨#[99, 104, 97, 105, 110, 46, 100, 101, 108]⟩) none (some (.int .i64 5)) none).run Tryz.prog W = .ok (.string ⟨#[99, 104, 97, 105, 110]⟩) W := fun W => by kernel_rfl
 have hs2 : ∀ W, (Instr.sliceAt 9 (.string ⟨#[99, 104, 97, 105, 110, 46, 100, 101, 108]⟩) (some (.int .i64 6)) none none).run Tryz.prog W = .ok (.string ⟨#[100, 101, 108]⟩) W := fun W => by kernel_rfl
 have hx : Lib.indexByte (⟨#[99, 104, 97, 105, 110, 46, 100, 101, 108]⟩ : ByteArray).data.toList 46 = 5 := by decide
 have hw : IntKind.i64.wrap 6 = 6 := by rw [IntKind.wrap_i64]; omega
 go_enter Tryz.func42, Tryz.ntmps42
 go_wp2_with fail
 refine (Tryz.stringslite_Index_one ⟨#[99, 104, 97, 105, 110, 46, 100, 101, 108]⟩ 46 _).mono ?_
 rintro e w1 ⟨he, hw1⟩
 rw [hx] at he
 rw [he, hw1]
 clear he hw1 hx
 go_wp2_with fail
 refine wp_region_held_drew (S := (fun _ => True)) (by kernel_rfl) ?_ (fun hHeld => ?_)
 ·trivial
 refine takeA 0 ?_
 try simp only [Act.put, pS]
 refine takeA 1 ?_
 try simp only [Act.put, pS]
 refine takeA 2 ?_
 try simp only [Act.put, pS]
 refine takeA 3 ?_
 try simp only [Act.put, pS]
 refine takeA 4 ?_
 try simp only [Act.put, pS]
 refine takeA 5 ?_
 try simp only [Act.put, pS]
 refine takeA 6 ?_
 try simp only [Act.put, pS]
 refine takeA 7 ?_
 try simp only [Act.put, pS]
 refine takeA 8 ?_
 try simp only [Act.put, pS]
 refine takeA 9 ?_
 try simp only [Act.put, pS]
 refine takeA 10 ?_
 try simp only [Act.put, pS]
 refine takeA 11 ?_
 try simp only [Act.put, pS]
 refine wpAnyH_done (by kernel_rfl) ?_ _
 try simp only [Act.put, pS]
 go_wp2
 refine bodyPost_ret (results_tmp3 rfl _ _ _) rfl ?_
 exact ⟨rfl, (Below.refl _ _).drew⟩
theorem scut_8 (w : World) : Calls Tryz.prog 19 #[.string ⟨#[99, 104, 97, 105, 110, 46, 100, 101, 108]⟩, .string ⟨#[46]⟩] w (CutPost ⟨#[99, 104, 97, 105, 110]⟩ ⟨#[100, 101, 108]⟩ w) := by
 go_enter Tryz.func19, Tryz.ntmps19
 go_wp2_with fail
 refine (cutl_8 w).mono ?_
 rintro e w1 ⟨rfl, hb1⟩
 go_wp2
 refine bodyPost_ret (results_tmp3 rfl _ _ _) rfl ?_
 exact ⟨rfl, hb1⟩
set_option maxRecDepth 100000 in
theorem cutl_9 (w : World) : Calls Tryz.prog 42 #[.string ⟨#[99, 104, 97, 105, 110, 46, 104, 97, 115]⟩, .string ⟨#[46]⟩] w (CutPost ⟨#[99, 104, 97, 105, 110]⟩ ⟨#[104, 97, 115]⟩ w) := by
 have hs1 : ∀ W, (Instr.sliceAt 9 (.string ⟨#[99, 104, 97, 105, 110, 46, 104, 97, 115]⟩) none (some (.int .i64 5)) none).run Tryz.prog W = .ok (.string ⟨#[99, 104, 97, 105, 110]⟩) W := fun W => by kernel_rfl
 have hs2 : ∀ W, (Instr.sliceAt 9 (.string ⟨#[99, 104, 97, 105, 110, 46, 104, 97, 115]⟩) (some (.int .i64 6)) none none).run Tryz.prog W = .ok (.string ⟨#[104, 97, 115]⟩) W := fun W => by kernel_rfl
 have hx : Lib.indexByte (⟨#[99, 104, 97, 105, 110, 46, 104, 97, 115]⟩ : ByteArray).data.toList 46 = 5 := by decide
 have hw : IntKind.i64.wrap 6 = 6 := by rw [IntKind.wrap_i64]; omega
 go_enter Tryz.func42, Tryz.ntmps42
 go_wp2_with fail
 refine (Tryz.stringslite_Index_one ⟨#[99, 104, 97, 105, 110, 46, 104, 97, 115]⟩ 46 _).mono ?_
 rintro e w1 ⟨he, hw1⟩
 rw [hx] at he
 rw [he, hw1]
 clear he hw1 hx
 go_wp2_with fail
 refine wp_region_held_drew (S := (fun _ => True)) (by kernel_rfl) ?_ (fun hHeld => ?_)
 ·trivial
 refine takeA 0 ?_
 try simp only [Act.put, pS]
 refine takeA 1 ?_
 try simp only [Act.put, pS]
 refine takeA 2 ?_
 try simp only [Act.put, pS]
 refine takeA 3 ?_
 try simp only [Act.put, pS]
 refine takeA 4 ?_
 try simp only [Act.put, pS]
 refine takeA 5 ?_
 try simp only [Act.put, pS]
 refine takeA 6 ?_
 try simp only [Act.put, pS]
 refine takeA 7 ?_
 try simp only [Act.put, pS]
 refine takeA 8 ?_
 try simp only [Act.put, pS]
 refine takeA 9 ?_
 try simp only [Act.put, pS]
 refine takeA 10 ?_
 try simp only [Act.put, pS]
 refine takeA 11 ?_
 try simp only [Act.put, pS]
 refine wpAnyH_done (by kernel_rfl) ?_ _
 try simp only [Act.put, pS]
 go_wp2
 refine bodyPost_ret (results_tmp3 rfl _ _ _) rfl ?_
 exact ⟨rfl, (Below.refl _ _).drew⟩
theorem scut_9 (w : World) : Calls Tryz.prog 19 #[.string ⟨#[99, 104, 97, 105, 110, 46, 104, 97, 115]⟩, .string ⟨#[46]⟩] w (CutPost ⟨#[99, 104, 97, 105, 110]⟩ ⟨#[104, 97, 115]⟩ w) := by
 go_enter Tryz.func19, Tryz.ntmps19
 go_wp2_with fail
 refine (cutl_9 w).mono ?_
 rintro e w1 ⟨rfl, hb1⟩
 go_wp2
 refine bodyPost_ret (results_tmp3 rfl _ _ _) rfl ?_
 exact ⟨rfl, hb1⟩
set_option maxRecDepth 100000 in
theorem cutl_10 (w : World) : Calls Tryz.prog 42 #[.string ⟨#[99, 104, 97, 105, 110, 46, 108, 101, 97, 115, 116]⟩, .string ⟨#[46]⟩] w (CutPost ⟨#[99, 104, 97, 105, 110]⟩ ⟨#[108, 101, 97, 115, 116]⟩ w) := by
 have hs1 : ∀ W, (Instr.sliceAt 9 (.string ⟨#[99, 104, 97, 105, 110, 46, 108, 101, 97, 115, 116]⟩) none (some (.int .i64 5)) none).run Tryz.prog W = .ok (.string ⟨#[99, 104, 97, 105, 110]⟩) W := fun W => by kernel_rfl
 have hs2 : ∀ W, (Instr.sliceAt 9 (.string ⟨#[99, 104, 97, 105, 110, 46, 108, 101, 97, 115, 116]⟩) (some (.int .i64 6)) none none).run Tryz.prog W = .ok (.string ⟨#[108, 101, 97, 115, 116]⟩) W := fun W => by kernel_rfl
 have hx : Lib.indexByte (⟨#[99, 104, 97, 105, 110, 46, 108, 101, 97, 115, 116]⟩ : ByteArray).data.toList 46 = 5 := by decide
 have hw : IntKind.i64.wrap 6 = 6 := by rw [IntKind.wrap_i64]; omega
 go_enter Tryz.func42, Tryz.ntmps42
 go_wp2_with fail
 refine (Tryz.stringslite_Index_one ⟨#[99, 104, 97, 105, 110, 46, 108, 101, 97, 115, 116]⟩ 46 _).mono ?_
 rintro e w1 ⟨he, hw1⟩
 rw [hx] at he
 rw [he, hw1]
 clear he hw1 hx
 go_wp2_with fail
 refine wp_region_held_drew (S := (fun _ => True)) (by kernel_rfl) ?_ (fun hHeld => ?_)
 ·trivial
 refine takeA 0 ?_
 try simp only [Act.put, pS]
 refine takeA 1 ?_
 try simp only [Act.put, pS]
 refine takeA 2 ?_
 try simp only [Act.put, pS]
 refine takeA 3 ?_
 try simp only [Act.put, pS]
 refine takeA 4 ?_
 try simp only [Act.put, pS]
 refine takeA 5 ?_
 try simp only [Act.put, pS]
 refine takeA 6 ?_
 try simp only [Act.put, pS]
 refine takeA 7 ?_
 try simp only [Act.put, pS]
 refine takeA 8 ?_
 try simp only [Act.put, pS]
 refine takeA 9 ?_
 try simp only [Act.put, pS]
 refine takeA 10 ?_
 try simp only [Act.put, pS]
 refine takeA 11 ?_
 try simp only [Act.put, pS]
 refine wpAnyH_done (by kernel_rfl) ?_ _
 try simp only [Act.put, pS]
 go_wp2
 refine bodyPost_ret (results_tmp3 rfl _ _ _) rfl ?_
 exact ⟨rfl, (Below.refl _ _).drew⟩
theorem scut_10 (w : World) : Calls Tryz.prog 19 #[.string ⟨#[99, 104, 97, 105, 110, 46, 108, 101, 97, 115, 116]⟩, .string ⟨#[46]⟩] w (CutPost ⟨#[99, 104, 97, 105, 110]⟩ ⟨#[108, 101, 97, 115, 116]⟩ w) := by
 go_enter Tryz.func19, Tryz.ntmps19
 go_wp2_with fail
 refine (cutl_10 w).mono ?_
 rintro e w1 ⟨rfl, hb1⟩
 go_wp2
 refine bodyPost_ret (results_tmp3 rfl _ _ _) rfl ?_
 exact ⟨rfl, hb1⟩
set_option maxRecDepth 100000 in
theorem cutl_11 (w : World) : Calls Tryz.prog 42 #[.string ⟨#[99, 104, 97, 105, 110, 46, 115, 105, 122, 101]⟩, .string ⟨#[46]⟩] w (CutPost ⟨#[99, 104, 97, 105, 110]⟩ ⟨#[115, 105, 122, 101]⟩ w) := by
 have hs1 : ∀ W, (Instr.sliceAt 9 (.string ⟨#[99, 104, 97, 105, 110, 46, 115, 105, 122, 101]⟩) none (some (.int .i64 5)) none).run Tryz.prog W = .ok (.string ⟨#[99, 104, 97, 105, 110]⟩) W := fun W => by kernel_rfl
 have hs2 : ∀ W, (Instr.sliceAt 9 (.string ⟨#[99, 104, 97, 105, 110, 46, 115, 105, 122, 101]⟩) (some (.int .i64 6)) none none).run Tryz.prog W = .ok (.string ⟨#[115, 105, 122, 101]⟩) W := fun W => by kernel_rfl
 have hx : Lib.indexByte (⟨#[99, 104, 97, 105, 110, 46, 115, 105, 122, 101]⟩ : ByteArray).data.toList 46 = 5 := by decide
 have hw : IntKind.i64.wrap 6 = 6 := by rw [IntKind.wrap_i64]; omega
 go_enter Tryz.func42, Tryz.ntmps42
 go_wp2_with fail
 refine (Tryz.stringslite_Index_one ⟨#[99, 104, 97, 105, 110, 46, 115, 105, 122, 101]⟩ 46 _).mono ?_
 rintro e w1 ⟨he, hw1⟩
 rw [hx] at he
 rw [he, hw1]
 clear he hw1 hx
 go_wp2_with fail
 refine wp_region_held_drew (S := (fun _ => True)) (by kernel_rfl) ?_ (fun hHeld => ?_)
 ·trivial
 refine takeA 0 ?_
 try simp only [Act.put, pS]
 refine takeA 1 ?_
 try simp only [Act.put, pS]
 refine takeA 2 ?_
 try simp only [Act.put, pS]
 refine takeA 3 ?_
 try simp only [Act.put, pS]
 refine takeA 4 ?_
 try simp only [Act.put, pS]
 refine takeA 5 ?_
 try simp only [Act.put, pS]
 refine takeA 6 ?_
 try simp only [Act.put, pS]
 refine takeA 7 ?_
 try simp only [Act.put, pS]
 refine takeA 8 ?_
 try simp only [Act.put, pS]
 refine takeA 9 ?_
 try simp only [Act.put, pS]
 refine takeA 10 ?_
 try simp only [Act.put, pS]
 refine takeA 11 ?_
 try simp only [Act.put, pS]
 refine wpAnyH_done (by kernel_rfl) ?_ _
 try simp only [Act.put, pS]
 go_wp2
 refine bodyPost_ret (results_tmp3 rfl _ _ _) rfl ?_
 exact ⟨rfl, (Below.refl _ _).drew⟩
theorem scut_11 (w : World) : Calls Tryz.prog 19 #[.string ⟨#[99, 104, 97, 105, 110, 46, 115, 105, 122, 101]⟩, .string ⟨#[46]⟩] w (CutPost ⟨#[99, 104, 97, 105, 110]⟩ ⟨#[115, 105, 122, 101]⟩ w) := by
 go_enter Tryz.func19, Tryz.ntmps19
 go_wp2_with fail
 refine (cutl_11 w).mono ?_
 rintro e w1 ⟨rfl, hb1⟩
 go_wp2
 refine bodyPost_ret (results_tmp3 rfl _ _ _) rfl ?_
 exact ⟨rfl, hb1⟩
set_option maxRecDepth 100000 in
theorem cutl_12 (w : World) : Calls Tryz.prog 42 #[.string ⟨#[99, 104, 97, 105, 110, 46, 100, 114, 111, 112]⟩, .string ⟨#[46]⟩] w (CutPost ⟨#[99, 104, 97, 105, 110]⟩ ⟨#[100, 114, 111, 112]⟩ w) := by
 have hs1 : ∀ W, (Instr.sliceAt 9 (.string ⟨#[99, 104, 97, 105, 110, 46, 100, 114, 111, 112]⟩) none (some (.int .i64 5)) none).run Tryz.prog W = .ok (.string ⟨#[99, 104, 97, 105, 110]⟩) W := fun W => by kernel_rfl
 have hs2 : ∀ W, (Instr.sliceAt 9 (.string ⟨#[99, 104, 97, 105, 110, 46, 100, 114, 111, 112]⟩) (some (.int .i64 6)) none none).run Tryz.prog W = .ok (.string ⟨#[100, 114, 111, 112]⟩) W := fun W => by kernel_rfl
 have hx : Lib.indexByte (⟨#[99, 104, 97, 105, 110, 46, 100, 114, 111, 112]⟩ : ByteArray).data.toList 46 = 5 := by decide
 have hw : IntKind.i64.wrap 6 = 6 := by rw [IntKind.wrap_i64]; omega
 go_enter Tryz.func42, Tryz.ntmps42
 go_wp2_with fail
 refine (Tryz.stringslite_Index_one ⟨#[99, 104, 97, 105, 110, 46, 100, 114, 111, 112]⟩ 46 _).mono ?_
 rintro e w1 ⟨he, hw1⟩
 rw [hx] at he
 rw [he, hw1]
 clear he hw1 hx
 go_wp2_with fail
 refine wp_region_held_drew (S := (fun _ => True)) (by kernel_rfl) ?_ (fun hHeld => ?_)
 ·trivial
 refine takeA 0 ?_
 try simp only [Act.put, pS]
 refine takeA 1 ?_
 try simp only [Act.put, pS]
 refine takeA 2 ?_
 try simp only [Act.put, pS]
 refine takeA 3 ?_
 try simp only [Act.put, pS]
 refine takeA 4 ?_
 try simp only [Act.put, pS]
 refine takeA 5 ?_
 try simp only [Act.put, pS]
 refine takeA 6 ?_
 try simp only [Act.put, pS]
 refine takeA 7 ?_
 try simp only [Act.put, pS]
 refine takeA 8 ?_
 try simp only [Act.put, pS]
 refine takeA 9 ?_
 try simp only [Act.put, pS]
 refine takeA 10 ?_
 try simp only [Act.put, pS]
 refine takeA 11 ?_
 try simp only [Act.put, pS]
 refine wpAnyH_done (by kernel_rfl) ?_ _
 try simp only [Act.put, pS]
 go_wp2
 refine bodyPost_ret (results_tmp3 rfl _ _ _) rfl ?_
 exact ⟨rfl, (Below.refl _ _).drew⟩
theorem scut_12 (w : World) : Calls Tryz.prog 19 #[.string ⟨#[99, 104, 97, 105, 110, 46, 100, 114, 111, 112]⟩, .string ⟨#[46]⟩] w (CutPost ⟨#[99, 104, 97, 105, 110]⟩ ⟨#[100, 114, 111, 112]⟩ w) := by
 go_enter Tryz.func19, Tryz.ntmps19
 go_wp2_with fail
 refine (cutl_12 w).mono ?_
 rintro e w1 ⟨rfl, hb1⟩
 go_wp2
 refine bodyPost_ret (results_tmp3 rfl _ _ _) rfl ?_
 exact ⟨rfl, hb1⟩
set_option maxRecDepth 100000 in
theorem cutl_13 (w : World) : Calls Tryz.prog 42 #[.string ⟨#[116, 97, 98, 108, 101, 46, 110, 101, 119]⟩, .string ⟨#[46]⟩] w (CutPost ⟨#[116, 97, 98, 108, 101]⟩ ⟨#[110, 101, 119]⟩ w) := by
 have hs1 : ∀ W, (Instr.sliceAt 9 (.string ⟨#[116, 97, 98, 108, 101, 46, 110, 101, 119]⟩) none (some (.int .i64 5)) none).run Tryz.prog W = .ok (.string ⟨#[116, 97, 98, 108, 101]⟩) W := fun W => by kernel_rfl
 have hs2 : ∀ W, (Instr.sliceAt 9 (.string ⟨#[116, 97, 98, 108, 101, 46, 110, 101, 119]⟩) (some (.int .i64 6)) none none).run Tryz.prog W = .ok (.string ⟨#[110, 101, 119]⟩) W := fun W => by kernel_rfl
 have hx : Lib.indexByte (⟨#[116, 97, 98, 108, 101, 46, 110, 101, 119]⟩ : ByteArray).data.toList 46 = 5 := by decide
 have hw : IntKind.i64.wrap 6 = 6 := by rw [IntKind.wrap_i64]; omega
 go_enter Tryz.func42, Tryz.ntmps42
 go_wp2_with fail
 refine (Tryz.stringslite_Index_one ⟨#[116, 97, 98, 108, 101, 46, 110, 101, 119]⟩ 46 _).mono ?_
 rintro e w1 ⟨he, hw1⟩
 rw [hx] at he
 rw [he, hw1]
 clear he hw1 hx
 go_wp2_with fail
 refine wp_region_held_drew (S := (fun _ => True)) (by kernel_rfl) ?_ (fun hHeld => ?_)
 ·trivial
 refine takeA 0 ?_
 try simp only [Act.put, pS]
 refine takeA 1 ?_
 try simp only [Act.put, pS]
 refine takeA 2 ?_
 try simp only [Act.put, pS]
 refine takeA 3 ?_
 try simp only [Act.put, pS]
 refine takeA 4 ?_
 try simp only [Act.put, pS]
 refine takeA 5 ?_
 try simp only [Act.put, pS]
 refine takeA 6 ?_
 try simp only [Act.put, pS]
 refine takeA 7 ?_
 try simp only [Act.put, pS]
 refine takeA 8 ?_
 try simp only [Act.put, pS]
 refine takeA 9 ?_
 try simp only [Act.put, pS]
 refine takeA 10 ?_
 try simp only [Act.put, pS]
 refine takeA 11 ?_
 try simp only [Act.put, pS]
 refine wpAnyH_done (by kernel_rfl) ?_ _
 try simp only [Act.put, pS]
 go_wp2
 refine bodyPost_ret (results_tmp3 rfl _ _ _) rfl ?_
 exact ⟨rfl, (Below.refl _ _).drew⟩
theorem scut_13 (w : World) : Calls Tryz.prog 19 #[.string ⟨#[116, 97, 98, 108, 101, 46, 110, 101, 119]⟩, .string ⟨#[46]⟩] w (CutPost ⟨#[116, 97, 98, 108, 101]⟩ ⟨#[110, 101, 119]⟩ w) := by
 go_enter Tryz.func19, Tryz.ntmps19
 go_wp2_with fail
 refine (cutl_13 w).mono ?_
 rintro e w1 ⟨rfl, hb1⟩
 go_wp2
 refine bodyPost_ret (results_tmp3 rfl _ _ _) rfl ?_
 exact ⟨rfl, hb1⟩
set_option maxRecDepth 100000 in
theorem cutl_14 (w : World) : Calls Tryz.prog 42 #[.string ⟨#[116, 97, 98, 108, 101, 46, 112, 117, 116]⟩, .string ⟨#[46]⟩] w (CutPost ⟨#[116, 97, 98, 108, 101]⟩ ⟨#[112, 117, 116]⟩ w) := by
 have hs1 : ∀ W, (Instr.sliceAt 9 (.string ⟨#[116, 97, 98, 108, 101, 46, 112, 117, 116]⟩) none (some (.int .i64 5)) none).run Tryz.prog W = .ok (.string ⟨#[116, 97, 98, 108, 101]⟩) W := fun W => by kernel_rfl
 have hs2 : ∀ W, (Instr.sliceAt 9 (.string ⟨#[116, 97, 98, 108, 101, 46, 112, 117, 116]⟩) (some (.int .i64 6)) none none).run Tryz.prog W = .ok (.string ⟨#[112, 117, 116]⟩) W := fun W => by kernel_rfl
 have hx : Lib.indexByte (⟨#[116, 97, 98, 108, 101, 46, 112, 117, 116]⟩ : ByteArray).data.toList 46 = 5 := by decide
 have hw : IntKind.i64.wrap 6 = 6 := by rw [IntKind.wrap_i64]; omega
 go_enter Tryz.func42, Tryz.ntmps42
 go_wp2_with fail
 refine (Tryz.stringslite_Index_one ⟨#[116, 97, 98, 108, 101, 46, 112, 117, 116]⟩ 46 _).mono ?_
 rintro e w1 ⟨he, hw1⟩
 rw [hx] at he
 rw [he, hw1]
 clear he hw1 hx
 go_wp2_with fail
 refine wp_region_held_drew (S := (fun _ => True)) (by kernel_rfl) ?_ (fun hHeld => ?_)
 ·trivial
 refine takeA 0 ?_
 try simp only [Act.put, pS]
 refine takeA 1 ?_
 try simp only [Act.put, pS]
 refine takeA 2 ?_
 try simp only [Act.put, pS]
 refine takeA 3 ?_
 try simp only [Act.put, pS]
 refine takeA 4 ?_
 try simp only [Act.put, pS]
 refine takeA 5 ?_
 try simp only [Act.put, pS]
 refine takeA 6 ?_
 try simp only [Act.put, pS]
 refine takeA 7 ?_
 try simp only [Act.put, pS]
 refine takeA 8 ?_
 try simp only [Act.put, pS]
 refine takeA 9 ?_
 try simp only [Act.put, pS]
 refine takeA 10 ?_
 try simp only [Act.put, pS]
 refine takeA 11 ?_
 try simp only [Act.put, pS]
 refine wpAnyH_done (by kernel_rfl) ?_ _
 try simp only [Act.put, pS]
 go_wp2
 refine bodyPost_ret (results_tmp3 rfl _ _ _) rfl ?_
 exact ⟨rfl, (Below.refl _ _).drew⟩
theorem scut_14 (w : World) : Calls Tryz.prog 19 #[.string ⟨#[116, 97, 98, 108, 101, 46, 112, 117, 116]⟩, .string ⟨#[46]⟩] w (CutPost ⟨#[116, 97, 98, 108, 101]⟩ ⟨#[112, 117, 116]⟩ w) := by
 go_enter Tryz.func19, Tryz.ntmps19
 go_wp2_with fail
 refine (cutl_14 w).mono ?_
 rintro e w1 ⟨rfl, hb1⟩
 go_wp2
 refine bodyPost_ret (results_tmp3 rfl _ _ _) rfl ?_
 exact ⟨rfl, hb1⟩
set_option maxRecDepth 100000 in
theorem cutl_15 (w : World) : Calls Tryz.prog 42 #[.string ⟨#[116, 97, 98, 108, 101, 46, 103, 101, 116]⟩, .string ⟨#[46]⟩] w (CutPost ⟨#[116, 97, 98, 108, 101]⟩ ⟨#[103, 101, 116]⟩ w) := by
 have hs1 : ∀ W, (Instr.sliceAt 9 (.string ⟨#[116, 97, 98, 108, 101, 46, 103, 101, 116]⟩) none (some (.int .i64 5)) none).run Tryz.prog W = .ok (.string ⟨#[116, 97, 98, 108, 101]⟩) W := fun W => by kernel_rfl
 have hs2 : ∀ W, (Instr.sliceAt 9 (.string ⟨#[116, 97, 98, 108, 101, 46, 103, 101, 116]⟩) (some (.int .i64 6)) none none).run Tryz.prog W = .ok (.string ⟨#[103, 101, 116]⟩) W := fun W => by kernel_rfl
 have hx : Lib.indexByte (⟨#[116, 97, 98, 108, 101, 46, 103, 101, 116]⟩ : ByteArray).data.toList 46 = 5 := by decide
 have hw : IntKind.i64.wrap 6 = 6 := by rw [IntKind.wrap_i64]; omega
 go_enter Tryz.func42, Tryz.ntmps42
 go_wp2_with fail
 refine (Tryz.stringslite_Index_one ⟨#[116, 97, 98, 108, 101, 46, 103, 101, 116]⟩ 46 _).mono ?_
 rintro e w1 ⟨he, hw1⟩
 rw [hx] at he
 rw [he, hw1]
 clear he hw1 hx
 go_wp2_with fail
 refine wp_region_held_drew (S := (fun _ => True)) (by kernel_rfl) ?_ (fun hHeld => ?_)
 ·trivial
 refine takeA 0 ?_
 try simp only [Act.put, pS]
 refine takeA 1 ?_
 try simp only [Act.put, pS]
 refine takeA 2 ?_
 try simp only [Act.put, pS]
 refine takeA 3 ?_
 try simp only [Act.put, pS]
 refine takeA 4 ?_
 try simp only [Act.put, pS]
 refine takeA 5 ?_
 try simp only [Act.put, pS]
 refine takeA 6 ?_
 try simp only [Act.put, pS]
 refine takeA 7 ?_
 try simp only [Act.put, pS]
 refine takeA 8 ?_
 try simp only [Act.put, pS]
 refine takeA 9 ?_
 try simp only [Act.put, pS]
 refine takeA 10 ?_
 try simp only [Act.put, pS]
 refine takeA 11 ?_
 try simp only [Act.put, pS]
 refine wpAnyH_done (by kernel_rfl) ?_ _
 try simp only [Act.put, pS]
 go_wp2
 refine bodyPost_ret (results_tmp3 rfl _ _ _) rfl ?_
 exact ⟨rfl, (Below.refl _ _).drew⟩
theorem scut_15 (w : World) : Calls Tryz.prog 19 #[.string ⟨#[116, 97, 98, 108, 101, 46, 103, 101, 116]⟩, .string ⟨#[46]⟩] w (CutPost ⟨#[116, 97, 98, 108, 101]⟩ ⟨#[103, 101, 116]⟩ w) := by
 go_enter Tryz.func19, Tryz.ntmps19
 go_wp2_with fail
 refine (cutl_15 w).mono ?_
 rintro e w1 ⟨rfl, hb1⟩
 go_wp2
 refine bodyPost_ret (results_tmp3 rfl _ _ _) rfl ?_
 exact ⟨rfl, hb1⟩
set_option maxRecDepth 100000 in
theorem cutl_16 (w : World) : Calls Tryz.prog 42 #[.string ⟨#[116, 97, 98, 108, 101, 46, 100, 101, 108]⟩, .string ⟨#[46]⟩] w (CutPost ⟨#[116, 97, 98, 108, 101]⟩ ⟨#[100, 101, 108]⟩ w) := by
 have hs1 : ∀ W, (Instr.sliceAt 9 (.string ⟨#[116, 97, 98, 108, 101, 46, 100, 101, 108]⟩) none (some (.int .i64 5)) none).run Tryz.prog W = .ok (.string ⟨#[116, 97, 98, 108, 101]⟩) W := fun W => by kernel_rfl
 have hs2 : ∀ W, (Instr.sliceAt 9 (.string ⟨#[116, 97, 98, 108, 101, 46, 100, 101, 108]⟩) (some (.int .i64 6)) none none).run Tryz.prog W = .ok (.string ⟨#[100, 101, 108]⟩) W := fun W => by kernel_rfl
 have hx : Lib.indexByte (⟨#[116, 97, 98, 108, 101, 46, 100, 101, 108]⟩ : ByteArray).data.toList 46 = 5 := by decide
 have hw : IntKind.i64.wrap 6 = 6 := by rw [IntKind.wrap_i64]; omega
 go_enter Tryz.func42, Tryz.ntmps42
 go_wp2_with fail
 refine (Tryz.stringslite_Index_one ⟨#[116, 97, 98, 108, 101, 46, 100, 101, 108]⟩ 46 _).mono ?_
 rintro e w1 ⟨he, hw1⟩
 rw [hx] at he
 rw [he, hw1]
 clear he hw1 hx
 go_wp2_with fail
 refine wp_region_held_drew (S := (fun _ => True)) (by kernel_rfl) ?_ (fun hHeld => ?_)
 ·trivial
 refine takeA 0 ?_
 try simp only [Act.put, pS]
 refine takeA 1 ?_
 try simp only [Act.put, pS]
 refine takeA 2 ?_
 try simp only [Act.put, pS]
 refine takeA 3 ?_
 try simp only [Act.put, pS]
 refine takeA 4 ?_
 try simp only [Act.put, pS]
 refine takeA 5 ?_
 try simp only [Act.put, pS]
 refine takeA 6 ?_
 try simp only [Act.put, pS]
 refine takeA 7 ?_
 try simp only [Act.put, pS]
 refine takeA 8 ?_
 try simp only [Act.put, pS]
 refine takeA 9 ?_
 try simp only [Act.put, pS]
 refine takeA 10 ?_
 try simp only [Act.put, pS]
 refine takeA 11 ?_
 try simp only [Act.put, pS]
 refine wpAnyH_done (by kernel_rfl) ?_ _
 try simp only [Act.put, pS]
 go_wp2
 refine bodyPost_ret (results_tmp3 rfl _ _ _) rfl ?_
 exact ⟨rfl, (Below.refl _ _).drew⟩
theorem scut_16 (w : World) : Calls Tryz.prog 19 #[.string ⟨#[116, 97, 98, 108, 101, 46, 100, 101, 108]⟩, .string ⟨#[46]⟩] w (CutPost ⟨#[116, 97, 98, 108, 101]⟩ ⟨#[100, 101, 108]⟩ w) := by
 go_enter Tryz.func19, Tryz.ntmps19
 go_wp2_with fail
 refine (cutl_16 w).mono ?_
 rintro e w1 ⟨rfl, hb1⟩
 go_wp2
 refine bodyPost_ret (results_tmp3 rfl _ _ _) rfl ?_
 exact ⟨rfl, hb1⟩
set_option maxRecDepth 100000 in
theorem cutl_17 (w : World) : Calls Tryz.prog 42 #[.string ⟨#[116, 97, 98, 108, 101, 46, 115, 105, 122, 101]⟩, .string ⟨#[46]⟩] w (CutPost ⟨#[116, 97, 98, 108, 101]⟩ ⟨#[115, 105, 122, 101]⟩ w) := by
 have hs1 : ∀ W, (Instr.sliceAt 9 (.string ⟨#[116, 97, 98, 108, 101, 46, 115, 105, 122, 101]⟩) none (some (.int .i64 5)) none).run Tryz.prog W = .ok (.string ⟨#[116, 97, 98, 108, 101]⟩) W := fun W => by kernel_rfl
 have hs2 : ∀ W, (Instr.sliceAt 9 (.string ⟨#[116, 97, 98, 108, 101, 46, 115, 105, 122, 101]⟩) (some (.int .i64 6)) none none).run Tryz.prog W = .ok (.string ⟨#[115, 105, 122, 101]⟩) W := fun W => by kernel_rfl
 have hx : Lib.indexByte (⟨#[116, 97, 98, 108, 101, 46, 115, 105, 122, 101]⟩ : ByteArray).data.toList 46 = 5 := by decide
 have hw : IntKind.i64.wrap 6 = 6 := by rw [IntKind.wrap_i64]; omega
 go_enter Tryz.func42, Tryz.ntmps42
 go_wp2_with fail
 refine (Tryz.stringslite_Index_one ⟨#[116, 97, 98, 108, 101, 46, 115, 105, 122, 101]⟩ 46 _).mono ?_
 rintro e w1 ⟨he, hw1⟩
 rw [hx] at he
 rw [he, hw1]
 clear he hw1 hx
 go_wp2_with fail
 refine wp_region_held_drew (S := (fun _ => True)) (by kernel_rfl) ?_ (fun hHeld => ?_)
 ·trivial
 refine takeA 0 ?_
 try simp only [Act.put, pS]
 refine takeA 1 ?_
 try simp only [Act.put, pS]
 refine takeA 2 ?_
 try simp only [Act.put, pS]
 refine takeA 3 ?_
 try simp only [Act.put, pS]
 refine takeA 4 ?_
 try simp only [Act.put, pS]
 refine takeA 5 ?_
 try simp only [Act.put, pS]
 refine takeA 6 ?_
 try simp only [Act.put, pS]
 refine takeA 7 ?_
 try simp only [Act.put, pS]
 refine takeA 8 ?_
 try simp only [Act.put, pS]
 refine takeA 9 ?_
 try simp only [Act.put, pS]
 refine takeA 10 ?_
 try simp only [Act.put, pS]
 refine takeA 11 ?_
 try simp only [Act.put, pS]
 refine wpAnyH_done (by kernel_rfl) ?_ _
 try simp only [Act.put, pS]
 go_wp2
 refine bodyPost_ret (results_tmp3 rfl _ _ _) rfl ?_
 exact ⟨rfl, (Below.refl _ _).drew⟩
theorem scut_17 (w : World) : Calls Tryz.prog 19 #[.string ⟨#[116, 97, 98, 108, 101, 46, 115, 105, 122, 101]⟩, .string ⟨#[46]⟩] w (CutPost ⟨#[116, 97, 98, 108, 101]⟩ ⟨#[115, 105, 122, 101]⟩ w) := by
 go_enter Tryz.func19, Tryz.ntmps19
 go_wp2_with fail
 refine (cutl_17 w).mono ?_
 rintro e w1 ⟨rfl, hb1⟩
 go_wp2
 refine bodyPost_ret (results_tmp3 rfl _ _ _) rfl ?_
 exact ⟨rfl, hb1⟩
set_option maxRecDepth 100000 in
theorem cutl_18 (w : World) : Calls Tryz.prog 42 #[.string ⟨#[116, 97, 98, 108, 101, 46, 100, 114, 111, 112]⟩, .string ⟨#[46]⟩] w (CutPost ⟨#[116, 97, 98, 108, 101]⟩ ⟨#[100, 114, 111, 112]⟩ w) := by
 have hs1 : ∀ W, (Instr.sliceAt 9 (.string ⟨#[116, 97, 98, 108, 101, 46, 100, 114, 111, 112]⟩) none (some (.int .i64 5)) none).run Tryz.prog W = .ok (.string ⟨#[116, 97, 98, 108, 101]⟩) W := fun W => by kernel_rfl
 have hs2 : ∀ W, (Instr.sliceAt 9 (.string ⟨#[116, 97, 98, 108, 101, 46, 100, 114, 111, 112]⟩) (some (.int .i64 6)) none none).run Tryz.prog W = .ok (.string ⟨#[100, 114, 111, 112]⟩) W := fun W => by kernel_rfl
 have hx : Lib.indexByte (⟨#[116, 97, 98, 108, 101, 46, 100, 114, 111, 112]⟩ : ByteArray).data.toList 46 = 5 := by decide
 have hw : IntKind.i64.wrap 6 = 6 := by rw [IntKind.wrap_i64]; omega
 go_enter Tryz.func42, Tryz.ntmps42
 go_wp2_with fail
 refine (Tryz.stringslite_Index_one ⟨#[116, 97, 98, 108, 101, 46, 100, 114, 111, 112]⟩ 46 _).mono ?_
 rintro e w1 ⟨he, hw1⟩
 rw [hx] at he
 rw [he, hw1]
 clear he hw1 hx
 go_wp2_with fail
 refine wp_region_held_drew (S := (fun _ => True)) (by kernel_rfl) ?_ (fun hHeld => ?_)
 ·trivial
 refine takeA 0 ?_
 try simp only [Act.put, pS]
 refine takeA 1 ?_
 try simp only [Act.put, pS]
 refine takeA 2 ?_
 try simp only [Act.put, pS]
 refine takeA 3 ?_
 try simp only [Act.put, pS]
 refine takeA 4 ?_
 try simp only [Act.put, pS]
 refine takeA 5 ?_
 try simp only [Act.put, pS]
 refine takeA 6 ?_
 try simp only [Act.put, pS]
 refine takeA 7 ?_
 try simp only [Act.put, pS]
 refine takeA 8 ?_
 try simp only [Act.put, pS]
 refine takeA 9 ?_
 try simp only [Act.put, pS]
 refine takeA 10 ?_
 try simp only [Act.put, pS]
 refine takeA 11 ?_
 try simp only [Act.put, pS]
 refine wpAnyH_done (by kernel_rfl) ?_ _
 try simp only [Act.put, pS]
 go_wp2
 refine bodyPost_ret (results_tmp3 rfl _ _ _) rfl ?_
 exact ⟨rfl, (Below.refl _ _).drew⟩
theorem scut_18 (w : World) : Calls Tryz.prog 19 #[.string ⟨#[116, 97, 98, 108, 101, 46, 100, 114, 111, 112]⟩, .string ⟨#[46]⟩] w (CutPost ⟨#[116, 97, 98, 108, 101]⟩ ⟨#[100, 114, 111, 112]⟩ w) := by
 go_enter Tryz.func19, Tryz.ntmps19
 go_wp2_with fail
 refine (cutl_18 w).mono ?_
 rintro e w1 ⟨rfl, hb1⟩
 go_wp2
 refine bodyPost_ret (results_tmp3 rfl _ _ _) rfl ?_
 exact ⟨rfl, hb1⟩
end Go.Proofs.YtiiaingepbkikaaGreatDoor
