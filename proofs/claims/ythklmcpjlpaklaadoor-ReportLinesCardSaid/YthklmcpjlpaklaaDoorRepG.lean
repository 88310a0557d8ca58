/-
  Chapter 25: contracts of report.Thing of nothing, object.New, report.Fault.
-/
import Derived.Test.YthklmcpjlpaklaaDoorRepF
namespace Go.Proofs.YthklmcpjlpaklaaDoor
open Go.RowKit
set_option linter.unusedVariables false

set_option maxRecDepth 100000 in
set_option maxHeartbeats 4000000 in
theorem thing_none (root : Int) (w : World) :
    Calls Tryd.prog 13 #[.int .i64 root, .agg #[.pointer none, .pointer none, .pointer none]] w fun e w' => e = .returned (.string ⟨#[]⟩) ∧ Below w.heap.size w w' := by
  go_enter Tryd.func13, Tryd.ntmps13
  go_wp2
  go_ret
  exact ⟨rfl, (Below.refl _ _).alloc (Nat.le_refl _) _⟩
def faultP (line e : Int) : Bys := lineP [[108, 105, 110, 101], Lib.itoa line, wordP e]
theorem fault_len (line e : Int) (h0 : -9223372036854775808 ≤ line) (h1 : line ≤ 9223372036854775807) (h2 : -9223372036854775808 ≤ e) (h3 : e ≤ 9223372036854775807) :
    (Lib.join [[108, 105, 110, 101], Lib.itoa line, wordP e] [32]).length ≤ 1000000 := by
  have := itoa_len line h0 h1
  have := wordP_len e h2 h3
  rw [Lib.join_cons]
  simp only [Lib.joinTail, List.map_cons, List.map_nil, List.flatten_cons, List.flatten_nil, List.length_append, List.length_cons, List.length_nil]
  omega
set_option maxRecDepth 100000 in
set_option maxHeartbeats 4000000 in
theorem fault_any (ln er : Int) (w : World) (h0 : -9223372036854775808 ≤ ln) (h1 : ln ≤ 9223372036854775807) (h2 : -9223372036854775808 ≤ er) (h3 : er ≤ 9223372036854775807) (htab : PowTab w) :
    Calls Tryd.prog 19 #[.agg #[.int .i64 ln, .int .i64 er]] w fun e w' => e = .returned (.string (str (faultP ln er))) ∧ Below w.heap.size w w' := by
  have HT := Lib.hid htab
  have HP := Lib.hid (And.intro h0 (And.intro h1 (And.intro h2 h3)))
  have HBX : Hid (Bk (w.alloc (.cells #[.int .i64 ln, .int .i64 er] 81)) w.heap.size 81 #[.int .i64 ln, .int .i64 er]) := Bk.new w _ _
  have HB1 : Hid (Below w.heap.size w (w.alloc (.cells #[.int .i64 ln, .int .i64 er] 81))) := (Below.refl _ _).alloc (Nat.le_refl _) _
  clear htab h0 h1 h2 h3
  go_enter Tryd.func19, Tryd.ntmps19
  go_wp2_with fail
  obtain ⟨W1, hW1⟩ : ∃ W1, w.alloc (.cells #[.int .i64 ln, .int .i64 er] 81) = W1 := ⟨_, rfl⟩
  rw [hW1] at HBX HB1 ⊢
  clear hW1
  have hz1 := HB1.out.size
  have hlt0 := HBX.out.lt
  have d0 := HBX.out.cell 0
  have d1 := HBX.out.cell 1
  simp at d0 d1
  have e0 : W1.drew.cell? ⟨w.heap.size, 0, none⟩ = some (.int .i64 ln) := d0
  have e1 : W1.drew.cell? ⟨w.heap.size, 1, none⟩ = some (.int .i64 er) := d1
  have HTd : Hid (PowTab W1.drew) := HT.out.below HB1.out.drew
  have HBd := Lib.hid ((Below.refl W1.heap.size W1).drew)
  have hzd : W1.heap.size ≤ W1.drew.heap.size := Nat.le_refl _
  obtain ⟨I, hI⟩ : ∃ I, str (Lib.itoa ln) = I := ⟨_, rfl⟩
  obtain ⟨D, hD⟩ : ∃ D, str (wordP er) = D := ⟨_, rfl⟩
  have HI := Lib.hid hI
  have HD := Lib.hid hD
  have HLe := Lib.hid (fault_len ln er HP.out.1 HP.out.2.1 HP.out.2.2.1 HP.out.2.2.2)
  have HX : Hid ([⟨#[108, 105, 110, 101]⟩, I, D].map (·.data.toList) = [[108, 105, 110, 101], Lib.itoa ln, wordP er]) := by
    show _ = _
    simp only [List.map_cons, List.map_nil, ← hI, ← hD, str_list]
  clear hI hD
  go_region_held3 (fun w' => w'.cell? ⟨w.heap.size, 0, none⟩ = some (.int .i64 ln) ∧ w'.cell? ⟨w.heap.size, 1, none⟩ = some (.int .i64 er))
    (first | exact ⟨f0, f1⟩ | exact ⟨e0, e1⟩ | exact ⟨d0, d1⟩ | go_keep)
    (first
      | (go_at_call 21
         refine (itoa_any ln HP.out.1 HP.out.2.1 _ HTd.out).mono ?_
         rintro e wn ⟨rfl, hbn⟩
         rw [HI.out]
         have HTd := Lib.hid (HTd.out.below hbn)
         have HBd := Lib.hid (HBd.out.trans (hbn.mono hzd))
         have hzd := HBd.out.size
         have e0 := (hbn.cell (p := ⟨w.heap.size, 0, none⟩) (World.block_lt_of_cell? _ _ e0)).trans e0
         have e1 := (hbn.cell (p := ⟨w.heap.size, 1, none⟩) (World.block_lt_of_cell? _ _ e1)).trans e1
         clear hbn)
      | (go_at_call 11
         refine (word_any er HP.out.2.2.1 HP.out.2.2.2 _ HTd.out).mono ?_
         rintro e wn ⟨rfl, hbn⟩
         rw [HD.out]
         have HTd := Lib.hid (HTd.out.below hbn)
         have HBd := Lib.hid (HBd.out.trans (hbn.mono hzd))
         have hzd := HBd.out.size
         have e0 := (hbn.cell (p := ⟨w.heap.size, 0, none⟩) (World.block_lt_of_cell? _ _ e0)).trans e0
         have e1 := (hbn.cell (p := ⟨w.heap.size, 1, none⟩) (World.block_lt_of_cell? _ _ e1)).trans e1
         have HRs : Hid (RdS (wn.alloc (.cells #[.string ⟨#[108, 105, 110, 101]⟩, .string I, .string D] 9)) (wn.heap.size + 1) (some ⟨wn.heap.size, 0, none⟩) 3 [⟨#[108, 105, 110, 101]⟩, I, D]) := Rd.newAt wn #[.string ⟨#[108, 105, 110, 101]⟩, .string I, .string D] _ _ rfl (size := 1) (m := 3) rfl (by simp [maxLen])
         have HBa := Lib.hid (HBd.out.alloc hzd (.cells #[.string ⟨#[108, 105, 110, 101]⟩, .string I, .string D] 9))
         clear hbn)
      | (go_at_call 23
         refine (line_any _ _ _ _ _ (HRs.out.more (by rw [World.size_alloc]; exact Nat.le_refl _)) (by decide) (by decide) (by decide) (by rw [HX.out]; exact HLe.out)).mono ?_
         rintro e wm ⟨rfl, hbm⟩
         rw [HX.out]
         have HBm := Lib.hid (HBa.out.trans (hbm.mono HBa.out.size))
         have f0 := (HBm.out.cell (p := ⟨w.heap.size, 0, none⟩) hlt0).trans d0
         have f1 := (HBm.out.cell (p := ⟨w.heap.size, 1, none⟩) hlt0).trans d1
         clear hbm))
  all_goals
    have HBw := Lib.hid (HB1.out.trans (HBm.out.mono hz1))
    go_wp2
    go_ret
    exact ⟨rfl, HBw.out⟩
def sumsP (pk sw wd lb : Int) : Bys := lineP [[112, 105, 99, 107, 115], Lib.itoa pk, [115, 119, 97, 112, 115], Lib.itoa sw, [119, 111, 114, 100, 115], Lib.itoa wd, [108, 105, 109, 98, 111], Lib.itoa lb]
theorem sums_len (pk sw wd lb : Int) (h : ∀ x ∈ [pk, sw, wd, lb], -9223372036854775808 ≤ x ∧ x ≤ 9223372036854775807) : (Lib.join [[112, 105, 99, 107, 115], Lib.itoa pk, [115, 119, 97, 112, 115], Lib.itoa sw, [119, 111, 114, 100, 115], Lib.itoa wd, [108, 105, 109, 98, 111], Lib.itoa lb] [32]).length ≤ 1000000 := by
  have h0 := itoa_len pk (h pk (by simp)).1 (h pk (by simp)).2
  have h1 := itoa_len sw (h sw (by simp)).1 (h sw (by simp)).2
  have h2 := itoa_len wd (h wd (by simp)).1 (h wd (by simp)).2
  have h3 := itoa_len lb (h lb (by simp)).1 (h lb (by simp)).2
  rw [Lib.join_cons]
  simp only [Lib.joinTail, List.map_cons, List.map_nil, List.flatten_cons, List.flatten_nil, List.length_append, List.length_cons, List.length_nil]
  omega
set_option maxRecDepth 100000 in
set_option maxHeartbeats 4000000 in
theorem sums_any (pk sw wd lb : Int) (w : World) (h : ∀ x ∈ [pk, sw, wd, lb], -9223372036854775808 ≤ x ∧ x ≤ 9223372036854775807) (htab : PowTab w) :
    Calls Tryd.prog 20 #[.int .i64 pk, .agg #[.int .i64 sw, .int .i64 wd, .int .i64 lb]] w fun e w' => e = .returned (.string (str (sumsP pk sw wd lb))) ∧ Below w.heap.size w w' := by
  have HT := Lib.hid htab
  have HP0 := Lib.hid (h pk (by simp))
  have HP1 := Lib.hid (h sw (by simp))
  have HP2 := Lib.hid (h wd (by simp))
  have HP3 := Lib.hid (h lb (by simp))
  have HLe := Lib.hid (sums_len pk sw wd lb h)
  have HBX : Hid (Bk (w.alloc (.cells #[.int .i64 sw, .int .i64 wd, .int .i64 lb] 84)) w.heap.size 84 #[.int .i64 sw, .int .i64 wd, .int .i64 lb]) := Bk.new w _ _
  have HB1 : Hid (Below w.heap.size w (w.alloc (.cells #[.int .i64 sw, .int .i64 wd, .int .i64 lb] 84))) := (Below.refl _ _).alloc (Nat.le_refl _) _
  clear htab h
  go_enter Tryd.func20, Tryd.ntmps20
  go_wp2_with fail
  obtain ⟨W1, hW1⟩ : ∃ W1, w.alloc (.cells #[.int .i64 sw, .int .i64 wd, .int .i64 lb] 84) = W1 := ⟨_, rfl⟩
  rw [hW1] at HBX HB1 ⊢
  clear hW1
  have hz1 := HB1.out.size
  have hlt0 := HBX.out.lt
  have d0 := HBX.out.cell 0
  have d1 := HBX.out.cell 1
  have d2 := HBX.out.cell 2
  simp at d0 d1 d2
  have e0 : W1.drew.cell? ⟨w.heap.size, 0, none⟩ = some (.int .i64 sw) := d0
  have e1 : W1.drew.cell? ⟨w.heap.size, 1, none⟩ = some (.int .i64 wd) := d1
  have e2 : W1.drew.cell? ⟨w.heap.size, 2, none⟩ = some (.int .i64 lb) := d2
  have HTd : Hid (PowTab W1.drew) := HT.out.below HB1.out.drew
  have HBd := Lib.hid ((Below.refl W1.heap.size W1).drew)
  have hzd : W1.heap.size ≤ W1.drew.heap.size := Nat.le_refl _
  obtain ⟨V0, hV0⟩ : ∃ V, str (Lib.itoa pk) = V := ⟨_, rfl⟩
  have HV0 := Lib.hid hV0
  obtain ⟨V1, hV1⟩ : ∃ V, str (Lib.itoa sw) = V := ⟨_, rfl⟩
  have HV1 := Lib.hid hV1
  obtain ⟨V2, hV2⟩ : ∃ V, str (Lib.itoa wd) = V := ⟨_, rfl⟩
  have HV2 := Lib.hid hV2
  obtain ⟨V3, hV3⟩ : ∃ V, str (Lib.itoa lb) = V := ⟨_, rfl⟩
  have HV3 := Lib.hid hV3
  have HX : Hid ([⟨#[112, 105, 99, 107, 115]⟩, V0, ⟨#[115, 119, 97, 112, 115]⟩, V1, ⟨#[119, 111, 114, 100, 115]⟩, V2, ⟨#[108, 105, 109, 98, 111]⟩, V3].map (·.data.toList) = [[112, 105, 99, 107, 115], Lib.itoa pk, [115, 119, 97, 112, 115], Lib.itoa sw, [119, 111, 114, 100, 115], Lib.itoa wd, [108, 105, 109, 98, 111], Lib.itoa lb]) := by
    show _ = _
    simp only [List.map_cons, List.map_nil, ← hV0, ← hV1, ← hV2, ← hV3, str_list]
  clear hV0 hV1 hV2 hV3
  go_region_held3 (fun w' => w'.cell? ⟨w.heap.size, 0, none⟩ = some (.int .i64 sw) ∧ w'.cell? ⟨w.heap.size, 1, none⟩ = some (.int .i64 wd) ∧ w'.cell? ⟨w.heap.size, 2, none⟩ = some (.int .i64 lb))
    (first | exact ⟨f0, f1, f2⟩ | exact ⟨e0, e1, e2⟩ | exact ⟨d0, d1, d2⟩ | go_keep)
    (first
      | (go_at_call 21
         refine (itoa_any _ (by first | exact HP0.out.1 | exact HP1.out.1 | exact HP2.out.1 | exact HP3.out.1) (by first | exact HP0.out.2 | exact HP1.out.2 | exact HP2.out.2 | exact HP3.out.2) _ HTd.out).mono ?_
         rintro e wn ⟨rfl, hbn⟩
         first | rw [HV0.out] | rw [HV1.out] | rw [HV2.out] | rw [HV3.out]
         have HTd := Lib.hid (HTd.out.below hbn)
         have HBd := Lib.hid (HBd.out.trans (hbn.mono hzd))
         have hzd := HBd.out.size
         have e0 := (hbn.cell (p := ⟨w.heap.size, 0, none⟩) (World.block_lt_of_cell? _ _ e0)).trans e0
         have e1 := (hbn.cell (p := ⟨w.heap.size, 1, none⟩) (World.block_lt_of_cell? _ _ e1)).trans e1
         have e2 := (hbn.cell (p := ⟨w.heap.size, 2, none⟩) (World.block_lt_of_cell? _ _ e2)).trans e2
         have HRs : Hid (RdS (wn.alloc (.cells #[.string ⟨#[112, 105, 99, 107, 115]⟩, .string V0, .string ⟨#[115, 119, 97, 112, 115]⟩, .string V1, .string ⟨#[119, 111, 114, 100, 115]⟩, .string V2, .string ⟨#[108, 105, 109, 98, 111]⟩, .string V3] 9)) (wn.heap.size + 1) (some ⟨wn.heap.size, 0, none⟩) 8 [⟨#[112, 105, 99, 107, 115]⟩, V0, ⟨#[115, 119, 97, 112, 115]⟩, V1, ⟨#[119, 111, 114, 100, 115]⟩, V2, ⟨#[108, 105, 109, 98, 111]⟩, V3]) := Rd.newAt wn #[.string ⟨#[112, 105, 99, 107, 115]⟩, .string V0, .string ⟨#[115, 119, 97, 112, 115]⟩, .string V1, .string ⟨#[119, 111, 114, 100, 115]⟩, .string V2, .string ⟨#[108, 105, 109, 98, 111]⟩, .string V3] _ _ rfl (size := 1) (m := 8) rfl (by simp [maxLen])
         have HBa := Lib.hid (HBd.out.alloc hzd (.cells #[.string ⟨#[112, 105, 99, 107, 115]⟩, .string V0, .string ⟨#[115, 119, 97, 112, 115]⟩, .string V1, .string ⟨#[119, 111, 114, 100, 115]⟩, .string V2, .string ⟨#[108, 105, 109, 98, 111]⟩, .string V3] 9))
         clear hbn)
      | (go_at_call 23
         refine (line_any _ _ _ _ _ (HRs.out.more (by rw [World.size_alloc]; exact Nat.le_refl _)) (by decide) (by decide) (by decide) (by rw [HX.out]; exact HLe.out)).mono ?_
         rintro e wm ⟨rfl, hbm⟩
         rw [HX.out]
         have HBm := Lib.hid (HBa.out.trans (hbm.mono HBa.out.size))
         have f0 := (HBm.out.cell (p := ⟨w.heap.size, 0, none⟩) hlt0).trans d0
         have f1 := (HBm.out.cell (p := ⟨w.heap.size, 1, none⟩) hlt0).trans d1
         have f2 := (HBm.out.cell (p := ⟨w.heap.size, 2, none⟩) hlt0).trans d2
         clear hbm))
  all_goals
    have HBw := Lib.hid (HB1.out.trans (HBm.out.mono hz1))
    go_wp2
    go_ret
    exact ⟨rfl, HBw.out⟩
end Go.Proofs.YthklmcpjlpaklaaDoor
