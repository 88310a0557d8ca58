import Derived.Test.YtiiaingepbkikaaGreatDoorWoAF
import Derived.Test.YtiiaingepbkikaaGreatDoorWoAA
import Derived.Test.YtiiaingepbkikaaGreatDoorWoAE
import Derived.Test.YtiiaingepbkikaaGreatDoorWoAB
import Derived.Deep.DeepCutAuto
import Derived.Lib.SliceRun
namespace Go.Proofs.YtiiaingepbkikaaGreatDoor
open Go.RowKit
set_option linter.unusedVariables false
def sV (l : Bys) : Value := .string (str l)
def NamesPost (w : World) (e : Ending) (w' : World) : Prop :=
 ∃ v, e = .returned v ∧ w'.ownsRow w.heap.size 9 1 v 19 (objNames.map sV) ∧ Below w.heap.size w w'
theorem bk_str {w : World} {g : Nat} {l : List Bys} (h : Bk w g 9 (l.map sV).toArray) {k : Nat} {x : Bys} (hx : l[k]? = some x) : w.cell? ⟨g, k, none⟩ = some (.string (str x)) := by
 rw [h.cell]
 simp [hx, sV]
theorem q_short : ∀ x ∈ qNames, x.length ≤ 30 := by decide
theorem c_short : ∀ x ∈ cNames, x.length ≤ 30 := by decide
theorem t_short : ∀ x ∈ tNames, x.length ≤ 30 := by decide
theorem q_names (w : World) : Calls Tryz.prog 39 #[] w fun e w' => e = .returned (.slice (some ⟨w.heap.size, 0, none⟩) 6 6) ∧ w' = w.alloc (.cells #[.string ⟨#[110, 101, 119]⟩, .string ⟨#[112, 117, 116]⟩, .string ⟨#[116, 97, 107, 101]⟩, .string ⟨#[112, 101, 101, 107]⟩, .string ⟨#[115, 105, 122, 101]⟩, .string ⟨#[100, 114, 111, 112]⟩] 9) := by
 go_enter Tryz.func39, Tryz.ntmps39
 go_wp2
 go_ret
 exact ⟨rfl, rfl⟩
theorem c_names (w : World) : Calls Tryz.prog 40 #[] w fun e w' => e = .returned (.slice (some ⟨w.heap.size, 0, none⟩) 7 7) ∧ w' = w.alloc (.cells #[.string ⟨#[110, 101, 119]⟩, .string ⟨#[97, 100, 100]⟩, .string ⟨#[100, 101, 108]⟩, .string ⟨#[104, 97, 115]⟩, .string ⟨#[108, 101, 97, 115, 116]⟩, .string ⟨#[115, 105, 122, 101]⟩, .string ⟨#[100, 114, 111, 112]⟩] 9) := by
 go_enter Tryz.func40, Tryz.ntmps40
 go_wp2
 go_ret
 exact ⟨rfl, rfl⟩
theorem t_names (w : World) : Calls Tryz.prog 41 #[] w fun e w' => e = .returned (.slice (some ⟨w.heap.size, 0, none⟩) 6 6) ∧ w' = w.alloc (.cells #[.string ⟨#[110, 101, 119]⟩, .string ⟨#[112, 117, 116]⟩, .string ⟨#[103, 101, 116]⟩, .string ⟨#[100, 101, 108]⟩, .string ⟨#[115, 105, 122, 101]⟩, .string ⟨#[100, 114, 111, 112]⟩] 9) := by
 go_enter Tryz.func41, Tryz.ntmps41
 go_wp2
 go_ret
 exact ⟨rfl, rfl⟩
set_option maxRecDepth 100000 in
set_option maxHeartbeats 8000000 in
theorem names_any (w : World) : Calls Tryz.prog 18 #[] w (NamesPost w) := by
 obtain ⟨i0, hi0, hy0, hy1, hy2⟩ := info_parts info_str
 have OW1 : Hid (w.ownsRow w.heap.size 9 1 (.slice none 0 0) 0 (([] : List Bys).map sV)) := World.ownsRow_nil _ _ _ _
 have BW1 : Hid (Below w.heap.size w w) := Below.refl _ _
 go_enter Tryz.func18, Tryz.ntmps18
 go_wp2_with fail
 refine (q_names _).mono ?_
 rintro e Y1 ⟨rfl, rfl⟩
 obtain ⟨Z1, hZ1⟩ : ∃ Z, w.alloc (.cells #[.string ⟨#[110, 101, 119]⟩, .string ⟨#[112, 117, 116]⟩, .string ⟨#[116, 97, 107, 101]⟩, .string ⟨#[112, 101, 101, 107]⟩, .string ⟨#[115, 105, 122, 101]⟩, .string ⟨#[100, 114, 111, 112]⟩] 9) = Z := ⟨_, rfl⟩
 rw [hZ1]
 have K1 : Hid (Bk Z1 w.heap.size 9 (qNames.map sV).toArray) := by rw [← hZ1]; exact Bk.new w _ _
 have O1 : Hid (Z1.ownsRow w.heap.size 9 1 (Value.slice none 0 0) 0 ((([] : List Bys)).map sV)) := by rw [← hZ1]; exact (OW1.out.alloc _)
 have E1 : Hid ((Value.slice none 0 0).ownBlock ≠ some w.heap.size) := fun e => by have := (OW1.out.lt _ e).2; omega
 have B1 : Hid (Below w.heap.size w Z1) := by rw [← hZ1]; exact BW1.out.alloc BW1.out.size _
 clear hZ1
 go_wp2
 go_loopw [1, 3, 10] (fun out _x i wr => ∃ k c : Nat, (k ≤ 6 ∧ i = .int .i64 k) ∧ Hid (c = 0 + k) ∧ Hid (wr.ownsRow w.heap.size 9 1 out c ((([] : List Bys) ++ (qNames.take k).map ([113, 117, 101, 117, 101, 46] ++ ·)).map sV)) ∧ Hid (Bk wr w.heap.size 9 (qNames.map sV).toArray) ∧ Hid (out.ownBlock ≠ some w.heap.size) ∧ Hid (Below w.heap.size w wr)) (fun _ _ i _ => 6 - (intOf i).toNat)
 case atStart => exact ⟨0, 0, ⟨by omega, rfl⟩, rfl, by show World.ownsRow _ _ _ _ _ _ _; simpa using O1.out, K1, E1, B1⟩
 case round =>
  obtain ⟨k, c, ⟨hk, rfl⟩, HC, HO, HK, HE, HB⟩ := hrel
  obtain ⟨Ao, co, rfl, hco, _⟩ := Rd.of_own_cap HO.out
  by_cases hlt : k < 6
  ·obtain ⟨x, hx⟩ : ∃ x, qNames[k]? = some x := ⟨_, List.getElem?_eq_getElem (by show k < 6; exact hlt)⟩
   have q0 := bk_str HK.out hx
   have HTk : Hid ((([] : List Bys) ++ (qNames.take (k + 1)).map ([113, 117, 101, 117, 101, 46] ++ ·)).map sV = (([] : List Bys) ++ (qNames.take k).map ([113, 117, 101, 117, 101, 46] ++ ·)).map sV ++ [sV ([113, 117, 101, 117, 101, 46] ++ x)]) := by show _ = _; rw [List.take_add_one, hx]; simp
   obtain ⟨X, hX⟩ : ∃ X, str x = X := ⟨_, rfl⟩
   rw [hX] at q0
   have hXs : X.size ≤ 30 := by rw [← hX, str_size]; exact q_short x (List.mem_of_getElem? hx)
   have HD : Hid (sV ([113, 117, 101, 117, 101, 46] ++ x) = .string (⟨#[113, 117, 101, 117, 101, 46]⟩ ++ X)) := by show _ = _; rw [← hX, sV, ← str_app]; rfl
   have hsz := HB.out.size
   have RN : Hid (Rd (wr.alloc (.cells #[.string (⟨#[113, 117, 101, 117, 101, 46]⟩ ++ X)] 9)) (wr.heap.size + 1) 1 (some ⟨wr.heap.size, 0, none⟩) 1 [.string (⟨#[113, 117, 101, 117, 101, 46]⟩ ++ X)]) := Rd.newAt wr _ _ _ rfl (size := 1) (m := 1) rfl (by simp [maxLen])
   obtain ⟨LK, hLK⟩ : ∃ LK, (([] : List Bys) ++ (qNames.take k).map ([113, 117, 101, 117, 101, 46] ++ ·)).map sV = LK := ⟨_, rfl⟩
   have HOl : Hid (wr.ownsRow w.heap.size 9 1 (.slice Ao c co) c LK) := by rw [← hLK]; exact HO
   rw [hLK] at HTk
   clear hX hx hLK HO
   go_wp2_with (at_builtin; refine wpList_app _ (by rfl) (.tmp 14) (.tmp 17) 67 (by rfl) w.heap.size 9 i0 _ 1 16 Tryz.underlying67 hi0 hy0 hy1 hy2 rfl (by decide) (.slice Ao c co) c LK (by rfl) (HOl.out.alloc _) (wr.heap.size + 1) (some ⟨wr.heap.size, 0, none⟩) 1 1 [.string (⟨#[113, 117, 101, 117, 101, 46]⟩ ++ X)] (by rfl) RN.out (by intro u hu; simp at hu; subst hu; rfl) (by have := HC.out; unfold maxLen; omega) (by have := HC.out; omega) (by rw [World.size_alloc]; omega) ?_)
   intro v5 w5 hown5 hg5 hv5
   have HO5 : Hid (w5.ownsRow w.heap.size 9 1 v5 (c + 1) ((([] : List Bys) ++ (qNames.take (k + 1)).map ([113, 117, 101, 117, 101, 46] ++ ·)).map sV)) := by
    show World.ownsRow _ _ _ _ _ _ _
    rw [HTk.out, HD.out]; exact hown5
   have HB5 := Lib.hid (below_own (HB.out.alloc hsz _) (HOl.out.alloc _) hg5 (Nat.le_refl _) (by rw [World.size_alloc]; omega))
   have HK5 : Hid (Bk w5 w.heap.size 9 (qNames.map sV).toArray) := (HK.out.alloc _).grown hg5 HE.out
   have HE5 : Hid (v5.ownBlock ≠ some w.heap.size) := by
    rcases hv5 with h | h
    ·exact fun e => HE.out (h.symm.trans e)
    ·intro e
     rw [h] at e
     have e := Option.some.inj e
     have := HK.out.lt
     first | rw [World.size_alloc] at e | skip
     omega
   have HC5 : Hid (c + 1 = 0 + (k + 1)) := by have := HC.out; show _ = _; omega
   clear hown5 hg5 hv5 RN q0
   go_wp2
   go_roundw
   case rel => exact ⟨k + 1, c + 1, ⟨by omega, by go_num⟩, HC5, HO5, HK5, HE5, HB5⟩
   case measure => simp [intOf]; omega
  ·obtain rfl : k = 6 := by omega
   obtain ⟨X2, rfl⟩ : ∃ X, X = wr := ⟨_, rfl⟩
   obtain ⟨V2, hV2⟩ : ∃ V, Value.slice Ao c co = V := ⟨_, rfl⟩
   obtain rfl : c = 6 := HC.out
   have OW2 : Hid (X2.ownsRow w.heap.size 9 1 V2 6 (((qNames.map ([113, 117, 101, 117, 101, 46] ++ ·))).map sV)) := by
    rw [← hV2]
    have h := HO.out
    rw [List.take_of_length_le (by show _ ≤ 6; exact Nat.le_refl _)] at h
    exact h
   have BW2 := Lib.hid HB.out
   rw [hV2]
   clear HO HK HE HB HC hlt hk hco
   go_wp2_with fail
   refine (c_names _).mono ?_
   rintro e Y2 ⟨rfl, rfl⟩
   obtain ⟨Z2, hZ2⟩ : ∃ Z, X2.alloc (.cells #[.string ⟨#[110, 101, 119]⟩, .string ⟨#[97, 100, 100]⟩, .string ⟨#[100, 101, 108]⟩, .string ⟨#[104, 97, 115]⟩, .string ⟨#[108, 101, 97, 115, 116]⟩, .string ⟨#[115, 105, 122, 101]⟩, .string ⟨#[100, 114, 111, 112]⟩] 9) = Z := ⟨_, rfl⟩
   rw [hZ2]
   have K2 : Hid (Bk Z2 X2.heap.size 9 (cNames.map sV).toArray) := by rw [← hZ2]; exact Bk.new X2 _ _
   have O2 : Hid (Z2.ownsRow w.heap.size 9 1 V2 6 (((qNames.map ([113, 117, 101, 117, 101, 46] ++ ·))).map sV)) := by rw [← hZ2]; exact (OW2.out.alloc _)
   have E2 : Hid (V2.ownBlock ≠ some X2.heap.size) := fun e => by have := (OW2.out.lt _ e).2; omega
   have B2 : Hid (Below w.heap.size w Z2) := by rw [← hZ2]; exact BW2.out.alloc BW2.out.size _
   clear hZ2
   go_wp2
   go_loopw [1, 5, 22] (fun out _x i wr => ∃ k c : Nat, (k ≤ 7 ∧ i = .int .i64 k) ∧ Hid (c = 6 + k) ∧ Hid (wr.ownsRow w.heap.size 9 1 out c (((qNames.map ([113, 117, 101, 117, 101, 46] ++ ·)) ++ (cNames.take k).map ([99, 104, 97, 105, 110, 46] ++ ·)).map sV)) ∧ Hid (Bk wr X2.heap.size 9 (cNames.map sV).toArray) ∧ Hid (out.ownBlock ≠ some X2.heap.size) ∧ Hid (Below w.heap.size w wr)) (fun _ _ i _ => 7 - (intOf i).toNat)
   case atStart => exact ⟨0, 6, ⟨by omega, rfl⟩, rfl, by show World.ownsRow _ _ _ _ _ _ _; simpa using O2.out, K2, E2, B2⟩
   case round =>
    obtain ⟨k, c, ⟨hk, rfl⟩, HC, HO, HK, HE, HB⟩ := hrel
    obtain ⟨Ao, co, rfl, hco, _⟩ := Rd.of_own_cap HO.out
    by_cases hlt : k < 7
    ·obtain ⟨x, hx⟩ : ∃ x, cNames[k]? = some x := ⟨_, List.getElem?_eq_getElem (by show k < 7; exact hlt)⟩
     have q0 := bk_str HK.out hx
     have HTk : Hid (((qNames.map ([113, 117, 101, 117, 101, 46] ++ ·)) ++ (cNames.take (k + 1)).map ([99, 104, 97, 105, 110, 46] ++ ·)).map sV = ((qNames.map ([113, 117, 101, 117, 101, 46] ++ ·)) ++ (cNames.take k).map ([99, 104, 97, 105, 110, 46] ++ ·)).map sV ++ [sV ([99, 104, 97, 105, 110, 46] ++ x)]) := by show _ = _; rw [List.take_add_one, hx]; simp
     obtain ⟨X, hX⟩ : ∃ X, str x = X := ⟨_, rfl⟩
     rw [hX] at q0
     have hXs : X.size ≤ 30 := by rw [← hX, str_size]; exact c_short x (List.mem_of_getElem? hx)
     have HD : Hid (sV ([99, 104, 97, 105, 110, 46] ++ x) = .string (⟨#[99, 104, 97, 105, 110, 46]⟩ ++ X)) := by show _ = _; rw [← hX, sV, ← str_app]; rfl
     have hsz := HB.out.size
     have RN : Hid (Rd (wr.alloc (.cells #[.string (⟨#[99, 104, 97, 105, 110, 46]⟩ ++ X)] 9)) (wr.heap.size + 1) 1 (some ⟨wr.heap.size, 0, none⟩) 1 [.string (⟨#[99, 104, 97, 105, 110, 46]⟩ ++ X)]) := Rd.newAt wr _ _ _ rfl (size := 1) (m := 1) rfl (by simp [maxLen])
     obtain ⟨LK, hLK⟩ : ∃ LK, ((qNames.map ([113, 117, 101, 117, 101, 46] ++ ·)) ++ (cNames.take k).map ([99, 104, 97, 105, 110, 46] ++ ·)).map sV = LK := ⟨_, rfl⟩
     have HOl : Hid (wr.ownsRow w.heap.size 9 1 (.slice Ao c co) c LK) := by rw [← hLK]; exact HO
     rw [hLK] at HTk
     clear hX hx hLK HO
     go_wp2_with (at_builtin; refine wpList_app _ (by rfl) (.tmp 26) (.tmp 29) 67 (by rfl) w.heap.size 9 i0 _ 1 16 Tryz.underlying67 hi0 hy0 hy1 hy2 rfl (by decide) (.slice Ao c co) c LK (by rfl) (HOl.out.alloc _) (wr.heap.size + 1) (some ⟨wr.heap.size, 0, none⟩) 1 1 [.string (⟨#[99, 104, 97, 105, 110, 46]⟩ ++ X)] (by rfl) RN.out (by intro u hu; simp at hu; subst hu; rfl) (by have := HC.out; unfold maxLen; omega) (by have := HC.out; omega) (by rw [World.size_alloc]; omega) ?_)
     intro v5 w5 hown5 hg5 hv5
     have HO5 : Hid (w5.ownsRow w.heap.size 9 1 v5 (c + 1) (((qNames.map ([113, 117, 101, 117, 101, 46] ++ ·)) ++ (cNames.take (k + 1)).map ([99, 104, 97, 105, 110, 46] ++ ·)).map sV)) := by
      show World.ownsRow _ _ _ _ _ _ _
      rw [HTk.out, HD.out]; exact hown5
     have HB5 := Lib.hid (below_own (HB.out.alloc hsz _) (HOl.out.alloc _) hg5 (Nat.le_refl _) (by rw [World.size_alloc]; omega))
     have HK5 : Hid (Bk w5 X2.heap.size 9 (cNames.map sV).toArray) := (HK.out.alloc _).grown hg5 HE.out
     have HE5 : Hid (v5.ownBlock ≠ some X2.heap.size) := by
      rcases hv5 with h | h
      ·exact fun e => HE.out (h.symm.trans e)
      ·intro e
       rw [h] at e
       have e := Option.some.inj e
       have := HK.out.lt
       first | rw [World.size_alloc] at e | skip
       omega
     have HC5 : Hid (c + 1 = 6 + (k + 1)) := by have := HC.out; show _ = _; omega
     clear hown5 hg5 hv5 RN q0
     go_wp2
     go_roundw
     case rel => exact ⟨k + 1, c + 1, ⟨by omega, by go_num⟩, HC5, HO5, HK5, HE5, HB5⟩
     case measure => simp [intOf]; omega
    ·obtain rfl : k = 7 := by omega
     obtain ⟨X3, rfl⟩ : ∃ X, X = wr := ⟨_, rfl⟩
     obtain ⟨V3, hV3⟩ : ∃ V, Value.slice Ao c co = V := ⟨_, rfl⟩
     obtain rfl : c = 13 := HC.out
     have OW3 : Hid (X3.ownsRow w.heap.size 9 1 V3 13 (((qNames.map ([113, 117, 101, 117, 101, 46] ++ ·) ++ cNames.map ([99, 104, 97, 105, 110, 46] ++ ·))).map sV)) := by
      rw [← hV3]
      have h := HO.out
      rw [List.take_of_length_le (by show _ ≤ 7; exact Nat.le_refl _)] at h
      exact h
     have BW3 := Lib.hid HB.out
     rw [hV3]
     clear HO HK HE HB HC hlt hk hco
     go_wp2_with fail
     refine (t_names _).mono ?_
     rintro e Y3 ⟨rfl, rfl⟩
     obtain ⟨Z3, hZ3⟩ : ∃ Z, X3.alloc (.cells #[.string ⟨#[110, 101, 119]⟩, .string ⟨#[112, 117, 116]⟩, .string ⟨#[103, 101, 116]⟩, .string ⟨#[100, 101, 108]⟩, .string ⟨#[115, 105, 122, 101]⟩, .string ⟨#[100, 114, 111, 112]⟩] 9) = Z := ⟨_, rfl⟩
     rw [hZ3]
     have K3 : Hid (Bk Z3 X3.heap.size 9 (tNames.map sV).toArray) := by rw [← hZ3]; exact Bk.new X3 _ _
     have O3 : Hid (Z3.ownsRow w.heap.size 9 1 V3 13 (((qNames.map ([113, 117, 101, 117, 101, 46] ++ ·) ++ cNames.map ([99, 104, 97, 105, 110, 46] ++ ·))).map sV)) := by rw [← hZ3]; exact (OW3.out.alloc _)
     have E3 : Hid (V3.ownBlock ≠ some X3.heap.size) := fun e => by have := (OW3.out.lt _ e).2; omega
     have B3 : Hid (Below w.heap.size w Z3) := by rw [← hZ3]; exact BW3.out.alloc BW3.out.size _
     clear hZ3
     go_wp2
     go_loopw [1, 7, 34] (fun out _x i wr => ∃ k c : Nat, (k ≤ 6 ∧ i = .int .i64 k) ∧ Hid (c = 13 + k) ∧ Hid (wr.ownsRow w.heap.size 9 1 out c (((qNames.map ([113, 117, 101, 117, 101, 46] ++ ·) ++ cNames.map ([99, 104, 97, 105, 110, 46] ++ ·)) ++ (tNames.take k).map ([116, 97, 98, 108, 101, 46] ++ ·)).map sV)) ∧ Hid (Bk wr X3.heap.size 9 (tNames.map sV).toArray) ∧ Hid (out.ownBlock ≠ some X3.heap.size) ∧ Hid (Below w.heap.size w wr)) (fun _ _ i _ => 6 - (intOf i).toNat)
     case atStart => exact ⟨0, 13, ⟨by omega, rfl⟩, rfl, by show World.ownsRow _ _ _ _ _ _ _; simpa using O3.out, K3, E3, B3⟩
     case round =>
      obtain ⟨k, c, ⟨hk, rfl⟩, HC, HO, HK, HE, HB⟩ := hrel
      obtain ⟨Ao, co, rfl, hco, _⟩ := Rd.of_own_cap HO.out
      by_cases hlt : k < 6
      ·obtain ⟨x, hx⟩ : ∃ x, tNames[k]? = some x := ⟨_, List.getElem?_eq_getElem (by show k < 6; exact hlt)⟩
       have q0 := bk_str HK.out hx
       have HTk : Hid (((qNames.map ([113, 117, 101, 117, 101, 46] ++ ·) ++ cNames.map ([99, 104, 97, 105, 110, 46] ++ ·)) ++ (tNames.take (k + 1)).map ([116, 97, 98, 108, 101, 46] ++ ·)).map sV = ((qNames.map ([113, 117, 101, 117, 101, 46] ++ ·) ++ cNames.map ([99, 104, 97, 105, 110, 46] ++ ·)) ++ (tNames.take k).map ([116, 97, 98, 108, 101, 46] ++ ·)).map sV ++ [sV ([116, 97, 98, 108, 101, 46] ++ x)]) := by show _ = _; rw [List.take_add_one, hx]; simp
       obtain ⟨X, hX⟩ : ∃ X, str x = X := ⟨_, rfl⟩
       rw [hX] at q0
       have hXs : X.size ≤ 30 := by rw [← hX, str_size]; exact t_short x (List.mem_of_getElem? hx)
       have HD : Hid (sV ([116, 97, 98, 108, 101, 46] ++ x) = .string (⟨#[116, 97, 98, 108, 101, 46]⟩ ++ X)) := by show _ = _; rw [← hX, sV, ← str_app]; rfl
       have hsz := HB.out.size
       have RN : Hid (Rd (wr.alloc (.cells #[.string (⟨#[116, 97, 98, 108, 101, 46]⟩ ++ X)] 9)) (wr.heap.size + 1) 1 (some ⟨wr.heap.size, 0, none⟩) 1 [.string (⟨#[116, 97, 98, 108, 101, 46]⟩ ++ X)]) := Rd.newAt wr _ _ _ rfl (size := 1) (m := 1) rfl (by simp [maxLen])
       obtain ⟨LK, hLK⟩ : ∃ LK, ((qNames.map ([113, 117, 101, 117, 101, 46] ++ ·) ++ cNames.map ([99, 104, 97, 105, 110, 46] ++ ·)) ++ (tNames.take k).map ([116, 97, 98, 108, 101, 46] ++ ·)).map sV = LK := ⟨_, rfl⟩
       have HOl : Hid (wr.ownsRow w.heap.size 9 1 (.slice Ao c co) c LK) := by rw [← hLK]; exact HO
       rw [hLK] at HTk
       clear hX hx hLK HO
       go_wp2_with (at_builtin; refine wpList_app _ (by rfl) (.tmp 38) (.tmp 41) 67 (by rfl) w.heap.size 9 i0 _ 1 16 Tryz.underlying67 hi0 hy0 hy1 hy2 rfl (by decide) (.slice Ao c co) c LK (by rfl) (HOl.out.alloc _) (wr.heap.size + 1) (some ⟨wr.heap.size, 0, none⟩) 1 1 [.string (⟨#[116, 97, 98, 108, 101, 46]⟩ ++ X)] (by rfl) RN.out (by intro u hu; simp at hu; subst hu; rfl) (by have := HC.out; unfold maxLen; omega) (by have := HC.out; omega) (by rw [World.size_alloc]; omega) ?_)
       intro v5 w5 hown5 hg5 hv5
       have HO5 : Hid (w5.ownsRow w.heap.size 9 1 v5 (c + 1) (((qNames.map ([113, 117, 101, 117, 101, 46] ++ ·) ++ cNames.map ([99, 104, 97, 105, 110, 46] ++ ·)) ++ (tNames.take (k + 1)).map ([116, 97, 98, 108, 101, 46] ++ ·)).map sV)) := by
        show World.ownsRow _ _ _ _ _ _ _
        rw [HTk.out, HD.out]; exact hown5
       have HB5 := Lib.hid (below_own (HB.out.alloc hsz _) (HOl.out.alloc _) hg5 (Nat.le_refl _) (by rw [World.size_alloc]; omega))
       have HK5 : Hid (Bk w5 X3.heap.size 9 (tNames.map sV).toArray) := (HK.out.alloc _).grown hg5 HE.out
       have HE5 : Hid (v5.ownBlock ≠ some X3.heap.size) := by
        rcases hv5 with h | h
        ·exact fun e => HE.out (h.symm.trans e)
        ·intro e
         rw [h] at e
         have e := Option.some.inj e
         have := HK.out.lt
         first | rw [World.size_alloc] at e | skip
         omega
       have HC5 : Hid (c + 1 = 13 + (k + 1)) := by have := HC.out; show _ = _; omega
       clear hown5 hg5 hv5 RN q0
       go_wp2
       go_roundw
       case rel => exact ⟨k + 1, c + 1, ⟨by omega, by go_num⟩, HC5, HO5, HK5, HE5, HB5⟩
       case measure => simp [intOf]; omega
      ·obtain rfl : k = 6 := by omega
       obtain rfl : c = 19 := HC.out
       have h := HO.out
       rw [List.take_of_length_le (by show _ ≤ 6; exact Nat.le_refl _)] at h
       have HOe : Hid (wr.ownsRow w.heap.size 9 1 (.slice Ao 19 co) 19 (objNames.map sV)) := h
       clear h
       go_wp2
       go_ret
       exact ⟨_, rfl, HOe.out, HB.out⟩
end Go.Proofs.YtiiaingepbkikaaGreatDoor
namespace Go.Proofs.YtiiaingepbkikaaGreatDoor
open Go.RowKit
set_option linter.unusedVariables false
def SlV (A : Option Addr) (n c : Nat) : Prop := n ≤ c ∧ (A = none → c = 0)
theorem own_slv {w : World} {base size n : Nat} {xs : List Value} {e : TypeId} {v : Value} (h : w.ownsRow base e size v n xs) : ∃ A c, v = .slice A n c ∧ SlV A n c ∧ Rd w w.heap.size size A n xs := by
 obtain ⟨A, c, rfl, hc, hr⟩ := Rd.of_own_cap h
 refine ⟨A, c, rfl, ⟨hc, ?_⟩, hr⟩
 rintro rfl
 rcases h.2 with ⟨h0, h1⟩ | ⟨g, cap, cur, h0, _⟩
 ·injection h0 with _ _ h0
 ·injection h0 with h0; cases h0
def InT (w : World) (t : TypeId) (A : Option Addr) : Prop := ∀ b o, A = some ⟨b, o, none⟩ → ∃ cs fr, w.heap[b]? = some (.cells cs t fr)
theorem InT.none (w : World) (t : TypeId) : InT w t none := fun b o e => by cases e
theorem own_int {w : World} {base size n m c : Nat} {e : TypeId} {A : Option Addr} {xs : List Value} (h : w.ownsRow base e size (.slice A m c) n xs) : InT w e A := by
 intro b o hA
 subst hA
 rcases h.2 with ⟨h0, _⟩ | ⟨g, cap, cur, h0, _, hg, _⟩
 ·cases h0
 ·injection h0 with h0
  injection h0 with h0
  injection h0 with h0
  subst h0
  exact ⟨_, _, hg⟩
def QIn (w : World) (p : Value) : QO → Prop
 | none => p = .pointer none
 | some (cap, l) => ∃ b A n c, p = .pointer (some ⟨b, 0, none⟩) ∧ SlV A n c ∧ b < w.heap.size ∧ w.cell? ⟨b, 0, none⟩ = some (.int .u64 cap) ∧ w.cell? ⟨b, 1, none⟩ = some (.slice A n c) ∧ RdU w w.heap.size A n l ∧ InT w 32 A
def TIn (w : World) (p : Value) : PO → Prop
 | none => p = .pointer none
 | some (cap, l) => ∃ b A n c, p = .pointer (some ⟨b, 0, none⟩) ∧ SlV A n c ∧ b < w.heap.size ∧ w.cell? ⟨b, 0, none⟩ = some (.int .u64 cap) ∧ w.cell? ⟨b, 1, none⟩ = some (.slice A n c) ∧ RdP w w.heap.size A n l ∧ InT w 112 A
section
variable {w w' : World} {p : Value} {g : Nat}
theorem InT.keep {t : TypeId} {A : Option Addr} {B size n : Nat} {xs : List Value} (h : InT w t A) (hk : ∀ b, b < w.heap.size → b ≠ g → w'.heap[b]? = w.heap[b]?) (hg : ∀ cs fr, w.heap[g]? ≠ some (.cells cs t fr)) : InT w' t A := by
 intro b o e
 obtain ⟨cs, fr, hb⟩ := h b o e
 have hlt : b < w.heap.size := (Array.getElem?_eq_some_iff.1 hb).1
 refine ⟨cs, fr, (hk b hlt ?_).trans hb⟩
 rintro rfl
 exact hg cs fr hb
theorem Rd.keepT {t : TypeId} {A : Option Addr} {size n : Nat} {xs : List Value} (h : Rd w w.heap.size size A n xs) (hT : InT w t A) (hk : ∀ b, b < w.heap.size → b ≠ g → w'.heap[b]? = w.heap[b]?) (hg : ∀ cs fr, w.heap[g]? ≠ some (.cells cs t fr)) : Rd w' w.heap.size size A n xs :=
 ⟨h.len, h.le, fun hn => by
  obtain ⟨b, o, e, hb, hc⟩ := h.at_ hn
  obtain ⟨cs, fr, hh⟩ := hT b o e
  have hne : b ≠ g := by rintro rfl; exact hg cs fr hh
  exact ⟨b, o, e, hb, fun j u hu => (World.cell?_of_block (hk b hb hne)).trans (hc j u hu)⟩⟩
theorem QIn.keep {o : QO} (h : QIn w p o) (hz : w.heap.size ≤ w'.heap.size) (hk : ∀ b, b < w.heap.size → b ≠ g → w'.heap[b]? = w.heap[b]?) (hg : ∀ cs fr, w.heap[g]? ≠ some (.cells cs 32 fr)) (h0 : ∀ u, w.cell? ⟨g, 0, none⟩ ≠ some (.int .u64 u)) : QIn w' p o := by
 rcases o with _ | ⟨cap, l⟩
 ·exact h
 ·obtain ⟨b, A, n, c, rfl, hnc, hb, h1, h2, hr, ht⟩ := h
  have hne : b ≠ g := by rintro rfl; exact h0 _ h1
  exact ⟨b, A, n, c, rfl, hnc, Nat.lt_of_lt_of_le hb hz, (World.cell?_of_block (hk b hb hne)).trans h1, (World.cell?_of_block (hk b hb hne)).trans h2, (hr.keepT ht hk hg).more hz, ht.keep (B := 0) (size := 0) (n := 0) (xs := []) hk hg⟩
theorem TIn.keep {o : PO} (h : TIn w p o) (hz : w.heap.size ≤ w'.heap.size) (hk : ∀ b, b < w.heap.size → b ≠ g → w'.heap[b]? = w.heap[b]?) (hg : ∀ cs fr, w.heap[g]? ≠ some (.cells cs 112 fr)) (h0 : ∀ u, w.cell? ⟨g, 0, none⟩ ≠ some (.int .u64 u)) : TIn w' p o := by
 rcases o with _ | ⟨cap, l⟩
 ·exact h
 ·obtain ⟨b, A, n, c, rfl, hnc, hb, h1, h2, hr, ht⟩ := h
  have hne : b ≠ g := by rintro rfl; exact h0 _ h1
  exact ⟨b, A, n, c, rfl, hnc, Nat.lt_of_lt_of_le hb hz, (World.cell?_of_block (hk b hb hne)).trans h1, (World.cell?_of_block (hk b hb hne)).trans h2, (hr.keepT ht hk hg).more hz, ht.keep (B := 0) (size := 0) (n := 0) (xs := []) hk hg⟩
theorem InT.below {t : TypeId} {A : Option Addr} (h : InT w t A) (hb : Below w.heap.size w w') : InT w' t A := fun b o e => by
 obtain ⟨cs, fr, hh⟩ := h b o e
 exact ⟨cs, fr, (hb.block b (Array.getElem?_eq_some_iff.1 hh).1).trans hh⟩
theorem QIn.below {o : QO} (h : QIn w p o) (hb : Below w.heap.size w w') : QIn w' p o := by
 rcases o with _ | ⟨cap, l⟩
 ·exact h
 ·obtain ⟨b, A, n, c, rfl, hnc, hlt, h0, h1, hr, ht⟩ := h
  exact ⟨b, A, n, c, rfl, hnc, Nat.lt_of_lt_of_le hlt hb.size, (hb.cell (p := ⟨b, 0, none⟩) hlt).trans h0, (hb.cell (p := ⟨b, 1, none⟩) hlt).trans h1, (hr.below hb).more hb.size, ht.below hb⟩
theorem TIn.below {o : PO} (h : TIn w p o) (hb : Below w.heap.size w w') : TIn w' p o := by
 rcases o with _ | ⟨cap, l⟩
 ·exact h
 ·obtain ⟨b, A, n, c, rfl, hnc, hlt, h0, h1, hr, ht⟩ := h
  exact ⟨b, A, n, c, rfl, hnc, Nat.lt_of_lt_of_le hlt hb.size, (hb.cell (p := ⟨b, 0, none⟩) hlt).trans h0, (hb.cell (p := ⟨b, 1, none⟩) hlt).trans h1, (hr.below hb).more hb.size, ht.below hb⟩
end
theorem set2_other (w : World) (g : Nat) (x y : Value) : ∀ b, b < w.heap.size → b ≠ g → ((w.setCell ⟨g, 0, none⟩ x).setCell ⟨g, 1, none⟩ y).heap[b]? = w.heap[b]? := by
 intro b _ hne
 simp only [World.setCell]
 rw [Array.getElem?_modify, if_neg (fun e => hne e.symm), Array.getElem?_modify, if_neg (fun e => hne e.symm)]
theorem bk_not {w : World} {g : Nat} {t u : TypeId} {cs : Array Value} (h : Bk w g t cs) (hne : t ≠ u) : ∀ cs' fr, w.heap[g]? ≠ some (.cells cs' u fr) := by
 intro cs' fr e
 unfold Bk at h
 rw [h] at e
 injection e with e
 injection e with _ e
 exact hne e
theorem QIn.res {w : World} {p : Value} {g : Nat} {o : QO} {a b : Int} (h : QIn w p o) (hg : Bk w g 47 #[.int .i64 a, .int .u64 b]) (x y : Value) : QIn ((w.setCell ⟨g, 0, none⟩ x).setCell ⟨g, 1, none⟩ y) p o :=
 h.keep (g := g) (by simp [World.setCell]) (set2_other w g x y) (bk_not hg (by decide)) (fun u e => by rw [hg.cell] at e; simp at e)
theorem TIn.res {w : World} {p : Value} {g : Nat} {o : PO} {a b : Int} (h : TIn w p o) (hg : Bk w g 47 #[.int .i64 a, .int .u64 b]) (x y : Value) : TIn ((w.setCell ⟨g, 0, none⟩ x).setCell ⟨g, 1, none⟩ y) p o :=
 h.keep (g := g) (by simp [World.setCell]) (set2_other w g x y) (bk_not hg (by decide)) (fun u e => by rw [hg.cell] at e; simp at e)
def ResV (v : Value) : Prop := ∃ c u, v = .agg #[.int .i64 c, .int .u64 u]
def DoesQ (w : World) (o : QO) (e : Ending) (w' : World) : Prop := ∃ p r, e = .returned (.tuple #[p, r]) ∧ QIn w' p o ∧ (∃ q, p = .pointer q) ∧ ResV r ∧ Below w.heap.size w w'
def DoesT (w : World) (o : PO) (e : Ending) (w' : World) : Prop := ∃ p r, e = .returned (.tuple #[p, r]) ∧ TIn w' p o ∧ (∃ q, p = .pointer q) ∧ ResV r ∧ Below w.heap.size w w'
end Go.Proofs.YtiiaingepbkikaaGreatDoor
namespace Go.Proofs.YtiiaingepbkikaaGreatDoor
open Go.RowKit
set_option linter.unusedVariables false
theorem info_u64 : (Tryz.prog.info? 32).map (fun i => (i.zero, i.size, i.bytes)) = some (some (.int .u64 0), 1, 8) := by kernel_rfl
theorem info_pr : (Tryz.prog.info? 112).map (fun i => (i.zero, i.size, i.bytes)) = some (some (.agg #[.int .u64 0, .int .u64 0]), 2, 16) := by kernel_rfl
theorem u64_one (l : List Int) : ∀ u ∈ l.map (Value.int .u64), u.oneCell' = true := by
 intro u hu
 obtain ⟨x, _, rfl⟩ := List.mem_map.1 hu
 rfl
theorem pair_one (l : List (Int × Int)) : ∀ u ∈ pCells l, u.oneCell' = true := by
 intro u hu
 obtain ⟨p, _, hp⟩ := List.mem_flatMap.1 hu
 simp at hp
 rcases hp with rfl | rfl <;> rfl
def CloneU (l : List Int) (n : Nat) (w : World) (e : Ending) (w' : World) : Prop := ∃ v, e = .returned v ∧ w'.ownsRow w.heap.size 32 1 v n (l.map (Value.int .u64)) ∧ Below w.heap.size w w'
set_option maxRecDepth 100000 in
set_option maxHeartbeats 2000000 in
theorem cloneU_any (l : List Int) (A : Option Addr) (n c : Nat) (w : World) (hr : RdU w w.heap.size A n l) (hc : SlV A n c) (hn : n ≤ 1000000) :
 Calls Tryz.prog 66 #[.slice A n c] w (CloneU l n w) := by
 obtain ⟨i0, hi0, hy0, hy1, hy2⟩ := info_parts info_u64
 have hq : ∀ (W : World) (a : Option Addr) (n c n' c' : Nat), (binOp .eql 33 (.slice a n c) (.slice none n' c')).run Tryz.prog W = .ok (.bool a.isNone) W := fun W a n c n' c' => Lib.run_eql_slice_nil W _ _ a n c n' c' Tryz.underlying33
 have HR := Lib.hid hr
 clear hr
 rcases A with _ | ad
 ·obtain rfl : c = 0 := hc.2 rfl
  obtain rfl : n = 0 := Nat.le_zero.1 hc.1
  have hl : l = [] := List.eq_nil_of_length_eq_zero HR.out.u64Len
  subst hl
  go_enter Tryz.func66, Tryz.ntmps66
  go_wp2
  go_ret
  exact ⟨_, rfl, World.ownsRow_nil _ _ _ _, Below.refl _ _⟩
 ·go_enter Tryz.func66, Tryz.ntmps66
  have HO : Hid ((w.alloc (.cells #[] 32)).ownsRow w.heap.size 32 1 (.slice (some ⟨w.heap.size, 0, none⟩) 0 0) 0 []) := World.ownsRow_made w #[] 0 (Nat.le_refl _) (Nat.zero_le _) (by simp)
  go_wp2_with (at_builtin; refine wpList_app _ (by rfl) (.tmp 5) (.tmp 6) 33 (by rfl) w.heap.size 32 i0 _ 1 8 Tryz.underlying33 hi0 hy0 hy1 hy2 rfl (by decide) (.slice (some ⟨w.heap.size, 0, none⟩) 0 0) 0 [] (by rfl) HO.out w.heap.size (some ad) n c (l.map (Value.int .u64)) (by rfl) (HR.out.alloc (Nat.le_refl _) _) (u64_one l) (by simp only [maxLen]; omega) (by omega) (by simp) ?_)
  intro v5 w5 hown5 hg5 _
  have HO5 : Hid (w5.ownsRow w.heap.size 32 1 v5 n (l.map (Value.int .u64))) := by show World.ownsRow _ _ _ _ _ _ _; simpa using hown5
  have HB5 := Lib.hid (below_own ((Below.refl _ _).alloc (Nat.le_refl _) (.cells #[] 32)) HO.out hg5 (Nat.le_refl _) (by simp))
  clear hown5 hg5
  go_wp2
  go_ret
  exact ⟨_, rfl, HO5.out, HB5.out⟩
def CloneP (l : List (Int × Int)) (n : Nat) (w : World) (e : Ending) (w' : World) : Prop := ∃ v, e = .returned v ∧ w'.ownsRow w.heap.size 112 2 v n (pCells l) ∧ Below w.heap.size w w'
set_option maxRecDepth 100000 in
set_option maxHeartbeats 2000000 in
theorem cloneP_any (l : List (Int × Int)) (A : Option Addr) (n c : Nat) (w : World) (hr : RdP w w.heap.size A n l) (hc : SlV A n c) (hn : n ≤ 1000000) :
 Calls Tryz.prog 87 #[.slice A n c] w (CloneP l n w) := by
 obtain ⟨i0, hi0, hy0, hy1, hy2⟩ := info_parts info_pr
 have hq : ∀ (W : World) (a : Option Addr) (n c n' c' : Nat), (binOp .eql 114 (.slice a n c) (.slice none n' c')).run Tryz.prog W = .ok (.bool a.isNone) W := fun W a n c n' c' => Lib.run_eql_slice_nil W _ _ a n c n' c' Tryz.underlying114
 have HR := Lib.hid hr
 clear hr
 rcases A with _ | ad
 ·obtain rfl : c = 0 := hc.2 rfl
  obtain rfl : n = 0 := Nat.le_zero.1 hc.1
  have hl : l = [] := List.eq_nil_of_length_eq_zero HR.out.pairLen
  subst hl
  go_enter Tryz.func87, Tryz.ntmps87
  go_wp2
  go_ret
  exact ⟨_, rfl, World.ownsRow_nil _ _ _ _, Below.refl _ _⟩
 ·go_enter Tryz.func87, Tryz.ntmps87
  have HO : Hid ((w.alloc (.cells #[] 112)).ownsRow w.heap.size 112 2 (.slice (some ⟨w.heap.size, 0, none⟩) 0 0) 0 []) := World.ownsRow_made w #[] 0 (Nat.le_refl _) (Nat.zero_le _) (by simp)
  go_wp2_with (at_builtin; refine wpList_app _ (by rfl) (.tmp 5) (.tmp 6) 114 (by rfl) w.heap.size 112 i0 _ 2 16 Tryz.underlying114 hi0 hy0 hy1 hy2 rfl (by decide) (.slice (some ⟨w.heap.size, 0, none⟩) 0 0) 0 [] (by rfl) HO.out w.heap.size (some ad) n c (pCells l) (by rfl) (HR.out.alloc (Nat.le_refl _) _) (pair_one l) (by simp only [maxLen]; omega) (by omega) (by simp) ?_)
  intro v5 w5 hown5 hg5 _
  have HO5 : Hid (w5.ownsRow w.heap.size 112 2 v5 n (pCells l)) := by show World.ownsRow _ _ _ _ _ _ _; simpa using hown5
  have HB5 := Lib.hid (below_own ((Below.refl _ _).alloc (Nat.le_refl _) (.cells #[] 112)) HO.out hg5 (Nat.le_refl _) (by simp))
  clear hown5 hg5
  go_wp2
  go_ret
  exact ⟨_, rfl, HO5.out, HB5.out⟩
end Go.Proofs.YtiiaingepbkikaaGreatDoor
