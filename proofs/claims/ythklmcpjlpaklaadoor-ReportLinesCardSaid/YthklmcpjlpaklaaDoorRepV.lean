/-
  Chapter 25: contracts of queue.Names, chain.Names, table.Names, object.Names. Printed by gen/repv.py.
-/
import Derived.Test.YthklmcpjlpaklaaDoorLinP
import Derived.Test.YthklmcpjlpaklaaDoorRepU
namespace Go.Proofs.YthklmcpjlpaklaaDoor
open Go.RowKit
set_option linter.unusedVariables false

def sV (l : Bys) : Value := .string (str l)
theorem sV_one (l : List Bys) : ∀ u ∈ l.map sV, u.oneCell' = true := by
  intro u hu
  obtain ⟨x, _, rfl⟩ := List.mem_map.1 hu
  rfl
theorem pre_size (p x : Bys) (h : p.length + x.length ≤ 100) : str p ++ str x = str (p ++ x) := str_app p x
def NamesPost (w : World) (e : Ending) (w' : World) : Prop :=
  ∃ v, e = .returned v ∧ w'.ownsRow w.heap.size 9 1 v 19 (objNames.map sV) ∧ Below w.heap.size w w'
theorem bk_str {w : World} {g : Nat} {l : List Bys} (h : Bk w g 9 (l.map sV).toArray) {k : Nat} {x : Bys} (hx : l[k]? = some x) : w.cell? ⟨g, k, none⟩ = some (.string (str x)) := by
  rw [h.cell]
  simp [hx, sV]
theorem q_short : ∀ x ∈ qNames, x.length ≤ 30 := by decide
theorem c_short : ∀ x ∈ cNames, x.length ≤ 30 := by decide
theorem t_short : ∀ x ∈ tNames, x.length ≤ 30 := by decide

theorem q_names (w : World) : Calls Tryd.prog 29 #[] w fun e w' => e = .returned (.slice (some ⟨w.heap.size, 0, none⟩) 6 6) ∧ w' = w.alloc (.cells #[.string ⟨#[110, 101, 119]⟩, .string ⟨#[112, 117, 116]⟩, .string ⟨#[116, 97, 107, 101]⟩, .string ⟨#[112, 101, 101, 107]⟩, .string ⟨#[115, 105, 122, 101]⟩, .string ⟨#[100, 114, 111, 112]⟩] 9) := by
  go_enter Tryd.func29, Tryd.ntmps29
  go_wp2
  go_ret
  exact ⟨rfl, rfl⟩
theorem q_cells (w : World) : RdS (w.alloc (.cells #[.string ⟨#[110, 101, 119]⟩, .string ⟨#[112, 117, 116]⟩, .string ⟨#[116, 97, 107, 101]⟩, .string ⟨#[112, 101, 101, 107]⟩, .string ⟨#[115, 105, 122, 101]⟩, .string ⟨#[100, 114, 111, 112]⟩] 9)) (w.heap.size + 1) (some ⟨w.heap.size, 0, none⟩) 6 (qNames.map str) := by
  have := Rd.newAt w #[.string ⟨#[110, 101, 119]⟩, .string ⟨#[112, 117, 116]⟩, .string ⟨#[116, 97, 107, 101]⟩, .string ⟨#[112, 101, 101, 107]⟩, .string ⟨#[115, 105, 122, 101]⟩, .string ⟨#[100, 114, 111, 112]⟩] 9 w.heap.size rfl (size := 1) (m := 6) rfl (by simp [maxLen])
  exact this

theorem c_names (w : World) : Calls Tryd.prog 30 #[] w fun e w' => e = .returned (.slice (some ⟨w.heap.size, 0, none⟩) 7 7) ∧ w' = w.alloc (.cells #[.string ⟨#[110, 101, 119]⟩, .string ⟨#[97, 100, 100]⟩, .string ⟨#[100, 101, 108]⟩, .string ⟨#[104, 97, 115]⟩, .string ⟨#[108, 101, 97, 115, 116]⟩, .string ⟨#[115, 105, 122, 101]⟩, .string ⟨#[100, 114, 111, 112]⟩] 9) := by
  go_enter Tryd.func30, Tryd.ntmps30
  go_wp2
  go_ret
  exact ⟨rfl, rfl⟩
theorem c_cells (w : World) : RdS (w.alloc (.cells #[.string ⟨#[110, 101, 119]⟩, .string ⟨#[97, 100, 100]⟩, .string ⟨#[100, 101, 108]⟩, .string ⟨#[104, 97, 115]⟩, .string ⟨#[108, 101, 97, 115, 116]⟩, .string ⟨#[115, 105, 122, 101]⟩, .string ⟨#[100, 114, 111, 112]⟩] 9)) (w.heap.size + 1) (some ⟨w.heap.size, 0, none⟩) 7 (cNames.map str) := by
  have := Rd.newAt w #[.string ⟨#[110, 101, 119]⟩, .string ⟨#[97, 100, 100]⟩, .string ⟨#[100, 101, 108]⟩, .string ⟨#[104, 97, 115]⟩, .string ⟨#[108, 101, 97, 115, 116]⟩, .string ⟨#[115, 105, 122, 101]⟩, .string ⟨#[100, 114, 111, 112]⟩] 9 w.heap.size rfl (size := 1) (m := 7) rfl (by simp [maxLen])
  exact this

theorem t_names (w : World) : Calls Tryd.prog 31 #[] w fun e w' => e = .returned (.slice (some ⟨w.heap.size, 0, none⟩) 6 6) ∧ w' = w.alloc (.cells #[.string ⟨#[110, 101, 119]⟩, .string ⟨#[112, 117, 116]⟩, .string ⟨#[103, 101, 116]⟩, .string ⟨#[100, 101, 108]⟩, .string ⟨#[115, 105, 122, 101]⟩, .string ⟨#[100, 114, 111, 112]⟩] 9) := by
  go_enter Tryd.func31, Tryd.ntmps31
  go_wp2
  go_ret
  exact ⟨rfl, rfl⟩
theorem t_cells (w : World) : RdS (w.alloc (.cells #[.string ⟨#[110, 101, 119]⟩, .string ⟨#[112, 117, 116]⟩, .string ⟨#[103, 101, 116]⟩, .string ⟨#[100, 101, 108]⟩, .string ⟨#[115, 105, 122, 101]⟩, .string ⟨#[100, 114, 111, 112]⟩] 9)) (w.heap.size + 1) (some ⟨w.heap.size, 0, none⟩) 6 (tNames.map str) := by
  have := Rd.newAt w #[.string ⟨#[110, 101, 119]⟩, .string ⟨#[112, 117, 116]⟩, .string ⟨#[103, 101, 116]⟩, .string ⟨#[100, 101, 108]⟩, .string ⟨#[115, 105, 122, 101]⟩, .string ⟨#[100, 114, 111, 112]⟩] 9 w.heap.size rfl (size := 1) (m := 6) rfl (by simp [maxLen])
  exact this

set_option maxRecDepth 100000 in
set_option maxHeartbeats 8000000 in
theorem names_any (w : World) : Calls Tryd.prog 15 #[] w (NamesPost w) := by
  obtain ⟨i0, hi0, hy0, hy1, hy2⟩ := info_parts info_str
  have OW1 : Hid (w.ownsRow w.heap.size 9 1 (.slice none 0 0) 0 (([] : List Bys).map sV)) := World.ownsRow_nil _ _ _ _
  have BW1 : Hid (Below w.heap.size w w) := Below.refl _ _
  go_enter Tryd.func15, Tryd.ntmps15
  go_wp2_with fail
  refine (q_names _).mono ?_
  rintro e Y1 ⟨rfl, rfl⟩
  obtain ⟨Z1, hZ1⟩ : ∃ Z, w.alloc (.cells #[.string ⟨#[110, 101, 119]⟩, .string ⟨#[112, 117, 116]⟩, .string ⟨#[116, 97, 107, 101]⟩, .string ⟨#[112, 101, 101, 107]⟩, .string ⟨#[115, 105, 122, 101]⟩, .string ⟨#[100, 114, 111, 112]⟩] 9) = Z := ⟨_, rfl⟩
  rw [hZ1]
  have K1 : Hid (Bk Z1 w.heap.size 9 (qNames.map sV).toArray) := by rw [← hZ1]; exact Bk.new w _ _
  have O1 : Hid (Z1.ownsRow w.heap.size 9 1 (Value.slice none 0 0) 0 ((([] : List Bys)).map sV)) := by rw [← hZ1]; exact (OW1.out.alloc _)
  have E1 : Hid ((Value.slice none 0 0).ownBlock ≠ some w.heap.size) := fun e => by have := (OW1.out.lt _ e).2; omega
  have B1 : Hid (Below w.heap.size w Z1) := by rw [← hZ1]; exact BW1.out.alloc BW1.out.size _
  clear hZ1
  go_wp2
  go_loopw [1, 3, 10] (fun out _x i wr => ∃ k c : Nat, (k ≤ 6 ∧ i = .int .i64 k) ∧ Hid (c = 0 + k) ∧ Hid (wr.ownsRow w.heap.size 9 1 out c ((([] : List Bys) ++ (qNames.take k).map ([113, 117, 101, 117, 101, 46] ++ ·)).map sV)) ∧ Hid (Bk wr w.heap.size 9 (qNames.map sV).toArray) ∧ Hid (out.ownBlock ≠ some w.heap.size) ∧ Hid (Below w.heap.size w wr)) (fun _ _ i _ => 6 - (intOf i).toNat)
  case atStart => exact ⟨0, 0, ⟨by omega, rfl⟩, rfl, by show World.ownsRow _ _ _ _ _ _ _; simpa using O1.out, K1, E1, B1⟩
  case round =>
    obtain ⟨k, c, ⟨hk, rfl⟩, HC, HO, HK, HE, HB⟩ := hrel
    obtain ⟨Ao, co, rfl, hco, _⟩ := Rd.of_own_cap HO.out
    by_cases hlt : k < 6
    · obtain ⟨x, hx⟩ : ∃ x, qNames[k]? = some x := ⟨_, List.getElem?_eq_getElem (by show k < 6; exact hlt)⟩
      have q0 := bk_str HK.out hx
      have HTk : Hid ((([] : List Bys) ++ (qNames.take (k + 1)).map ([113, 117, 101, 117, 101, 46] ++ ·)).map sV = (([] : List Bys) ++ (qNames.take k).map ([113, 117, 101, 117, 101, 46] ++ ·)).map sV ++ [sV ([113, 117, 101, 117, 101, 46] ++ x)]) := by show _ = _; rw [List.take_add_one, hx]; simp
      obtain ⟨X, hX⟩ : ∃ X, str x = X := ⟨_, rfl⟩
      rw [hX] at q0
      have hXs : X.size ≤ 30 := by rw [← hX, str_size]; exact q_short x (List.mem_of_getElem? hx)
      have HD : Hid (sV ([113, 117, 101, 117, 101, 46] ++ x) = .string (⟨#[113, 117, 101, 117, 101, 46]⟩ ++ X)) := by show _ = _; rw [← hX, sV, ← str_app]; rfl
      have hsz := HB.out.size
      have RN : Hid (Rd (wr.alloc (.cells #[.string (⟨#[113, 117, 101, 117, 101, 46]⟩ ++ X)] 9)) (wr.heap.size + 1) 1 (some ⟨wr.heap.size, 0, none⟩) 1 [.string (⟨#[113, 117, 101, 117, 101, 46]⟩ ++ X)]) := Rd.newAt wr _ _ _ rfl (size := 1) (m := 1) rfl (by simp [maxLen])
      obtain ⟨LK, hLK⟩ : ∃ LK, (([] : List Bys) ++ (qNames.take k).map ([113, 117, 101, 117, 101, 46] ++ ·)).map sV = LK := ⟨_, rfl⟩
      have HOl : Hid (wr.ownsRow w.heap.size 9 1 (.slice Ao c co) c LK) := by rw [← hLK]; exact HO
      rw [hLK] at HTk
      clear hX hx hLK HO
      go_wp2_with (at_builtin; refine wpList_app _ (by rfl) (.tmp 14) (.tmp 17) 22 (by rfl) w.heap.size 9 i0 _ 1 16 Tryd.underlying22 hi0 hy0 hy1 hy2 rfl (by decide) (.slice Ao c co) c LK (by rfl) (HOl.out.alloc _) (wr.heap.size + 1) (some ⟨wr.heap.size, 0, none⟩) 1 1 [.string (⟨#[113, 117, 101, 117, 101, 46]⟩ ++ X)] (by rfl) RN.out (by intro u hu; simp at hu; subst hu; rfl) (by have := HC.out; unfold maxLen; omega) (by have := HC.out; omega) (by rw [World.size_alloc]; omega) ?_)
      intro v5 w5 hown5 hg5 hv5
      have HO5 : Hid (w5.ownsRow w.heap.size 9 1 v5 (c + 1) ((([] : List Bys) ++ (qNames.take (k + 1)).map ([113, 117, 101, 117, 101, 46] ++ ·)).map sV)) := by
        show World.ownsRow _ _ _ _ _ _ _
        rw [HTk.out, HD.out]; exact hown5
      have HB5 := Lib.hid (below_own (HB.out.alloc hsz _) (HOl.out.alloc _) hg5 (Nat.le_refl _) (by rw [World.size_alloc]; omega))
      have HK5 : Hid (Bk w5 w.heap.size 9 (qNames.map sV).toArray) := (HK.out.alloc _).grown hg5 HE.out
      have HE5 : Hid (v5.ownBlock ≠ some w.heap.size) := by
        rcases hv5 with h | h
        · exact fun e => HE.out (h.symm.trans e)
        · intro e
          rw [h] at e
          have e := Option.some.inj e
          have := HK.out.lt
          first | rw [World.size_alloc] at e | skip
          omega
      have HC5 : Hid (c + 1 = 0 + (k + 1)) := by have := HC.out; show _ = _; omega
      clear hown5 hg5 hv5 RN q0
      go_wp2
      go_roundw
      case rel => exact ⟨k + 1, c + 1, ⟨by omega, by go_num⟩, HC5, HO5, HK5, HE5, HB5⟩
      case measure => simp [intOf]; omega
    · obtain rfl : k = 6 := by omega
      obtain ⟨X2, rfl⟩ : ∃ X, X = wr := ⟨_, rfl⟩
      obtain ⟨V2, hV2⟩ : ∃ V, Value.slice Ao c co = V := ⟨_, rfl⟩
      obtain rfl : c = 6 := HC.out
      have OW2 : Hid (X2.ownsRow w.heap.size 9 1 V2 6 (((qNames.map ([113, 117, 101, 117, 101, 46] ++ ·))).map sV)) := by
        rw [← hV2]
        have h := HO.out
        rw [List.take_of_length_le (by show _ ≤ 6; exact Nat.le_refl _)] at h
        exact h
      have BW2 := Lib.hid HB.out
      rw [hV2]
      clear HO HK HE HB HC hlt hk hco
      go_wp2_with fail
      refine (c_names _).mono ?_
      rintro e Y2 ⟨rfl, rfl⟩
      obtain ⟨Z2, hZ2⟩ : ∃ Z, X2.alloc (.cells #[.string ⟨#[110, 101, 119]⟩, .string ⟨#[97, 100, 100]⟩, .string ⟨#[100, 101, 108]⟩, .string ⟨#[104, 97, 115]⟩, .string ⟨#[108, 101, 97, 115, 116]⟩, .string ⟨#[115, 105, 122, 101]⟩, .string ⟨#[100, 114, 111, 112]⟩] 9) = Z := ⟨_, rfl⟩
      rw [hZ2]
      have K2 : Hid (Bk Z2 X2.heap.size 9 (cNames.map sV).toArray) := by rw [← hZ2]; exact Bk.new X2 _ _
      have O2 : Hid (Z2.ownsRow w.heap.size 9 1 V2 6 (((qNames.map ([113, 117, 101, 117, 101, 46] ++ ·))).map sV)) := by rw [← hZ2]; exact (OW2.out.alloc _)
      have E2 : Hid (V2.ownBlock ≠ some X2.heap.size) := fun e => by have := (OW2.out.lt _ e).2; omega
      have B2 : Hid (Below w.heap.size w Z2) := by rw [← hZ2]; exact BW2.out.alloc BW2.out.size _
      clear hZ2
      go_wp2
      go_loopw [1, 5, 22] (fun out _x i wr => ∃ k c : Nat, (k ≤ 7 ∧ i = .int .i64 k) ∧ Hid (c = 6 + k) ∧ Hid (wr.ownsRow w.heap.size 9 1 out c (((qNames.map ([113, 117, 101, 117, 101, 46] ++ ·)) ++ (cNames.take k).map ([99, 104, 97, 105, 110, 46] ++ ·)).map sV)) ∧ Hid (Bk wr X2.heap.size 9 (cNames.map sV).toArray) ∧ Hid (out.ownBlock ≠ some X2.heap.size) ∧ Hid (Below w.heap.size w wr)) (fun _ _ i _ => 7 - (intOf i).toNat)
      case atStart => exact ⟨0, 6, ⟨by omega, rfl⟩, rfl, by show World.ownsRow _ _ _ _ _ _ _; simpa using O2.out, K2, E2, B2⟩
      case round =>
        obtain ⟨k, c, ⟨hk, rfl⟩, HC, HO, HK, HE, HB⟩ := hrel
        obtain ⟨Ao, co, rfl, hco, _⟩ := Rd.of_own_cap HO.out
        by_cases hlt : k < 7
        · obtain ⟨x, hx⟩ : ∃ x, cNames[k]? = some x := ⟨_, List.getElem?_eq_getElem (by show k < 7; exact hlt)⟩
          have q0 := bk_str HK.out hx
          have HTk : Hid (((qNames.map ([113, 117, 101, 117, 101, 46] ++ ·)) ++ (cNames.take (k + 1)).map ([99, 104, 97, 105, 110, 46] ++ ·)).map sV = ((qNames.map ([113, 117, 101, 117, 101, 46] ++ ·)) ++ (cNames.take k).map ([99, 104, 97, 105, 110, 46] ++ ·)).map sV ++ [sV ([99, 104, 97, 105, 110, 46] ++ x)]) := by show _ = _; rw [List.take_add_one, hx]; simp
          obtain ⟨X, hX⟩ : ∃ X, str x = X := ⟨_, rfl⟩
          rw [hX] at q0
          have hXs : X.size ≤ 30 := by rw [← hX, str_size]; exact c_short x (List.mem_of_getElem? hx)
          have HD : Hid (sV ([99, 104, 97, 105, 110, 46] ++ x) = .string (⟨#[99, 104, 97, 105, 110, 46]⟩ ++ X)) := by show _ = _; rw [← hX, sV, ← str_app]; rfl
          have hsz := HB.out.size
          have RN : Hid (Rd (wr.alloc (.cells #[.string (⟨#[99, 104, 97, 105, 110, 46]⟩ ++ X)] 9)) (wr.heap.size + 1) 1 (some ⟨wr.heap.size, 0, none⟩) 1 [.string (⟨#[99, 104, 97, 105, 110, 46]⟩ ++ X)]) := Rd.newAt wr _ _ _ rfl (size := 1) (m := 1) rfl (by simp [maxLen])
          obtain ⟨LK, hLK⟩ : ∃ LK, ((qNames.map ([113, 117, 101, 117, 101, 46] ++ ·)) ++ (cNames.take k).map ([99, 104, 97, 105, 110, 46] ++ ·)).map sV = LK := ⟨_, rfl⟩
          have HOl : Hid (wr.ownsRow w.heap.size 9 1 (.slice Ao c co) c LK) := by rw [← hLK]; exact HO
          rw [hLK] at HTk
          clear hX hx hLK HO
          go_wp2_with (at_builtin; refine wpList_app _ (by rfl) (.tmp 26) (.tmp 29) 22 (by rfl) w.heap.size 9 i0 _ 1 16 Tryd.underlying22 hi0 hy0 hy1 hy2 rfl (by decide) (.slice Ao c co) c LK (by rfl) (HOl.out.alloc _) (wr.heap.size + 1) (some ⟨wr.heap.size, 0, none⟩) 1 1 [.string (⟨#[99, 104, 97, 105, 110, 46]⟩ ++ X)] (by rfl) RN.out (by intro u hu; simp at hu; subst hu; rfl) (by have := HC.out; unfold maxLen; omega) (by have := HC.out; omega) (by rw [World.size_alloc]; omega) ?_)
          intro v5 w5 hown5 hg5 hv5
          have HO5 : Hid (w5.ownsRow w.heap.size 9 1 v5 (c + 1) (((qNames.map ([113, 117, 101, 117, 101, 46] ++ ·)) ++ (cNames.take (k + 1)).map ([99, 104, 97, 105, 110, 46] ++ ·)).map sV)) := by
            show World.ownsRow _ _ _ _ _ _ _
            rw [HTk.out, HD.out]; exact hown5
          have HB5 := Lib.hid (below_own (HB.out.alloc hsz _) (HOl.out.alloc _) hg5 (Nat.le_refl _) (by rw [World.size_alloc]; omega))
          have HK5 : Hid (Bk w5 X2.heap.size 9 (cNames.map sV).toArray) := (HK.out.alloc _).grown hg5 HE.out
          have HE5 : Hid (v5.ownBlock ≠ some X2.heap.size) := by
            rcases hv5 with h | h
            · exact fun e => HE.out (h.symm.trans e)
            · intro e
              rw [h] at e
              have e := Option.some.inj e
              have := HK.out.lt
              first | rw [World.size_alloc] at e | skip
              omega
          have HC5 : Hid (c + 1 = 6 + (k + 1)) := by have := HC.out; show _ = _; omega
          clear hown5 hg5 hv5 RN q0
          go_wp2
          go_roundw
          case rel => exact ⟨k + 1, c + 1, ⟨by omega, by go_num⟩, HC5, HO5, HK5, HE5, HB5⟩
          case measure => simp [intOf]; omega
        · obtain rfl : k = 7 := by omega
          obtain ⟨X3, rfl⟩ : ∃ X, X = wr := ⟨_, rfl⟩
          obtain ⟨V3, hV3⟩ : ∃ V, Value.slice Ao c co = V := ⟨_, rfl⟩
          obtain rfl : c = 13 := HC.out
          have OW3 : Hid (X3.ownsRow w.heap.size 9 1 V3 13 (((qNames.map ([113, 117, 101, 117, 101, 46] ++ ·) ++ cNames.map ([99, 104, 97, 105, 110, 46] ++ ·))).map sV)) := by
            rw [← hV3]
            have h := HO.out
            rw [List.take_of_length_le (by show _ ≤ 7; exact Nat.le_refl _)] at h
            exact h
          have BW3 := Lib.hid HB.out
          rw [hV3]
          clear HO HK HE HB HC hlt hk hco
          go_wp2_with fail
          refine (t_names _).mono ?_
          rintro e Y3 ⟨rfl, rfl⟩
          obtain ⟨Z3, hZ3⟩ : ∃ Z, X3.alloc (.cells #[.string ⟨#[110, 101, 119]⟩, .string ⟨#[112, 117, 116]⟩, .string ⟨#[103, 101, 116]⟩, .string ⟨#[100, 101, 108]⟩, .string ⟨#[115, 105, 122, 101]⟩, .string ⟨#[100, 114, 111, 112]⟩] 9) = Z := ⟨_, rfl⟩
          rw [hZ3]
          have K3 : Hid (Bk Z3 X3.heap.size 9 (tNames.map sV).toArray) := by rw [← hZ3]; exact Bk.new X3 _ _
          have O3 : Hid (Z3.ownsRow w.heap.size 9 1 V3 13 (((qNames.map ([113, 117, 101, 117, 101, 46] ++ ·) ++ cNames.map ([99, 104, 97, 105, 110, 46] ++ ·))).map sV)) := by rw [← hZ3]; exact (OW3.out.alloc _)
          have E3 : Hid (V3.ownBlock ≠ some X3.heap.size) := fun e => by have := (OW3.out.lt _ e).2; omega
          have B3 : Hid (Below w.heap.size w Z3) := by rw [← hZ3]; exact BW3.out.alloc BW3.out.size _
          clear hZ3
          go_wp2
          go_loopw [1, 7, 34] (fun out _x i wr => ∃ k c : Nat, (k ≤ 6 ∧ i = .int .i64 k) ∧ Hid (c = 13 + k) ∧ Hid (wr.ownsRow w.heap.size 9 1 out c (((qNames.map ([113, 117, 101, 117, 101, 46] ++ ·) ++ cNames.map ([99, 104, 97, 105, 110, 46] ++ ·)) ++ (tNames.take k).map ([116, 97, 98, 108, 101, 46] ++ ·)).map sV)) ∧ Hid (Bk wr X3.heap.size 9 (tNames.map sV).toArray) ∧ Hid (out.ownBlock ≠ some X3.heap.size) ∧ Hid (Below w.heap.size w wr)) (fun _ _ i _ => 6 - (intOf i).toNat)
          case atStart => exact ⟨0, 13, ⟨by omega, rfl⟩, rfl, by show World.ownsRow _ _ _ _ _ _ _; simpa using O3.out, K3, E3, B3⟩
          case round =>
            obtain ⟨k, c, ⟨hk, rfl⟩, HC, HO, HK, HE, HB⟩ := hrel
            obtain ⟨Ao, co, rfl, hco, _⟩ := Rd.of_own_cap HO.out
            by_cases hlt : k < 6
            · obtain ⟨x, hx⟩ : ∃ x, tNames[k]? = some x := ⟨_, List.getElem?_eq_getElem (by show k < 6; exact hlt)⟩
              have q0 := bk_str HK.out hx
              have HTk : Hid (((qNames.map ([113, 117, 101, 117, 101, 46] ++ ·) ++ cNames.map ([99, 104, 97, 105, 110, 46] ++ ·)) ++ (tNames.take (k + 1)).map ([116, 97, 98, 108, 101, 46] ++ ·)).map sV = ((qNames.map ([113, 117, 101, 117, 101, 46] ++ ·) ++ cNames.map ([99, 104, 97, 105, 110, 46] ++ ·)) ++ (tNames.take k).map ([116, 97, 98, 108, 101, 46] ++ ·)).map sV ++ [sV ([116, 97, 98, 108, 101, 46] ++ x)]) := by show _ = _; rw [List.take_add_one, hx]; simp
              obtain ⟨X, hX⟩ : ∃ X, str x = X := ⟨_, rfl⟩
              rw [hX] at q0
              have hXs : X.size ≤ 30 := by rw [← hX, str_size]; exact t_short x (List.mem_of_getElem? hx)
              have HD : Hid (sV ([116, 97, 98, 108, 101, 46] ++ x) = .string (⟨#[116, 97, 98, 108, 101, 46]⟩ ++ X)) := by show _ = _; rw [← hX, sV, ← str_app]; rfl
              have hsz := HB.out.size
              have RN : Hid (Rd (wr.alloc (.cells #[.string (⟨#[116, 97, 98, 108, 101, 46]⟩ ++ X)] 9)) (wr.heap.size + 1) 1 (some ⟨wr.heap.size, 0, none⟩) 1 [.string (⟨#[116, 97, 98, 108, 101, 46]⟩ ++ X)]) := Rd.newAt wr _ _ _ rfl (size := 1) (m := 1) rfl (by simp [maxLen])
              obtain ⟨LK, hLK⟩ : ∃ LK, ((qNames.map ([113, 117, 101, 117, 101, 46] ++ ·) ++ cNames.map ([99, 104, 97, 105, 110, 46] ++ ·)) ++ (tNames.take k).map ([116, 97, 98, 108, 101, 46] ++ ·)).map sV = LK := ⟨_, rfl⟩
              have HOl : Hid (wr.ownsRow w.heap.size 9 1 (.slice Ao c co) c LK) := by rw [← hLK]; exact HO
              rw [hLK] at HTk
              clear hX hx hLK HO
              go_wp2_with (at_builtin; refine wpList_app _ (by rfl) (.tmp 38) (.tmp 41) 22 (by rfl) w.heap.size 9 i0 _ 1 16 Tryd.underlying22 hi0 hy0 hy1 hy2 rfl (by decide) (.slice Ao c co) c LK (by rfl) (HOl.out.alloc _) (wr.heap.size + 1) (some ⟨wr.heap.size, 0, none⟩) 1 1 [.string (⟨#[116, 97, 98, 108, 101, 46]⟩ ++ X)] (by rfl) RN.out (by intro u hu; simp at hu; subst hu; rfl) (by have := HC.out; unfold maxLen; omega) (by have := HC.out; omega) (by rw [World.size_alloc]; omega) ?_)
              intro v5 w5 hown5 hg5 hv5
              have HO5 : Hid (w5.ownsRow w.heap.size 9 1 v5 (c + 1) (((qNames.map ([113, 117, 101, 117, 101, 46] ++ ·) ++ cNames.map ([99, 104, 97, 105, 110, 46] ++ ·)) ++ (tNames.take (k + 1)).map ([116, 97, 98, 108, 101, 46] ++ ·)).map sV)) := by
                show World.ownsRow _ _ _ _ _ _ _
                rw [HTk.out, HD.out]; exact hown5
              have HB5 := Lib.hid (below_own (HB.out.alloc hsz _) (HOl.out.alloc _) hg5 (Nat.le_refl _) (by rw [World.size_alloc]; omega))
              have HK5 : Hid (Bk w5 X3.heap.size 9 (tNames.map sV).toArray) := (HK.out.alloc _).grown hg5 HE.out
              have HE5 : Hid (v5.ownBlock ≠ some X3.heap.size) := by
                rcases hv5 with h | h
                · exact fun e => HE.out (h.symm.trans e)
                · intro e
                  rw [h] at e
                  have e := Option.some.inj e
                  have := HK.out.lt
                  first | rw [World.size_alloc] at e | skip
                  omega
              have HC5 : Hid (c + 1 = 13 + (k + 1)) := by have := HC.out; show _ = _; omega
              clear hown5 hg5 hv5 RN q0
              go_wp2
              go_roundw
              case rel => exact ⟨k + 1, c + 1, ⟨by omega, by go_num⟩, HC5, HO5, HK5, HE5, HB5⟩
              case measure => simp [intOf]; omega
            · obtain rfl : k = 6 := by omega
              obtain rfl : c = 19 := HC.out
              have h := HO.out
              rw [List.take_of_length_le (by show _ ≤ 6; exact Nat.le_refl _)] at h
              have HOe : Hid (wr.ownsRow w.heap.size 9 1 (.slice Ao 19 co) 19 (objNames.map sV)) := h
              clear h
              go_wp2
              go_ret
              exact ⟨_, rfl, HOe.out, HB.out⟩
end Go.Proofs.YthklmcpjlpaklaaDoor
