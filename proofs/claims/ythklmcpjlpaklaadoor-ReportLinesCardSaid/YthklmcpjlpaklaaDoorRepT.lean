/-
  Chapter 25: a table as a line: contracts of report.each[table.Pair], of the pair's text, and of report.Thing at a table. Printed by gen/rept.py.
-/
import Derived.Test.YthklmcpjlpaklaaDoorRepF
namespace Go.Proofs.YthklmcpjlpaklaaDoor
open Go.RowKit
set_option linter.unusedVariables false

def pairB (p : Int × Int) : Bys := dec p.1 ++ [61] ++ dec p.2
def pairV (p : Int × Int) : Value := .string (str (pairB p))
def PairOk (p : Int × Int) : Prop := (0 ≤ p.1 ∧ p.1 ≤ 18446744073709551615) ∧ (0 ≤ p.2 ∧ p.2 ≤ 18446744073709551615)
def pCells (l : List (Int × Int)) : List Value := l.flatMap fun p => [.int .u64 p.1, .int .u64 p.2]
theorem pCells_len (l : List (Int × Int)) : (pCells l).length = l.length * 2 := by
  induction l with
  | nil => rfl
  | cons p l ih => rw [pCells, List.flatMap_cons, List.length_append, ← pCells, ih]; simp; omega
theorem pCells_at {l : List (Int × Int)} {k : Nat} {p : Int × Int} (h : l[k]? = some p) : (pCells l)[k * 2]? = some (.int .u64 p.1) ∧ (pCells l)[k * 2 + 1]? = some (.int .u64 p.2) := by
  induction l generalizing k with
  | nil => simp at h
  | cons q l ih =>
    rcases k with _ | k
    · obtain rfl : q = p := by simpa using h
      exact ⟨rfl, rfl⟩
    · have h' := ih (k := k) (by simpa using h)
      have e : pCells (q :: l) = Value.int .u64 q.1 :: .int .u64 q.2 :: pCells l := rfl
      rw [e, show (k + 1) * 2 = k * 2 + 1 + 1 by omega]
      exact ⟨by simpa using h'.1, by simpa using h'.2⟩
theorem pCells_app (l r : List (Int × Int)) : pCells (l ++ r) = pCells l ++ pCells r := by simp [pCells]
/-- A slice of pairs that is read. -/
abbrev RdP (w : World) (B : Nat) (A : Option Addr) (n : Nat) (l : List (Int × Int)) : Prop := Rd w B 2 A n (pCells l)
theorem Rd.pairLen {w : World} {B n : Nat} {A : Option Addr} {l : List (Int × Int)} (h : RdP w B A n l) : l.length = n := by
  have := h.len; rw [pCells_len] at this; omega
theorem pair_len (p : Int × Int) (h : PairOk p) : (pairB p).length ≤ 41 := by
  have h1 := dec_len p.1 h.1.2
  have h2 := dec_len p.2 h.2.2
  simp only [pairB, List.length_append, List.length_cons, List.length_nil]
  omega
theorem thing_lenp (root cap : Int) (word : Bys) (l : List (Int × Int)) (h0 : -9223372036854775808 ≤ root) (h1 : root ≤ 9223372036854775807) (hc : cap ≤ 18446744073709551615) (hw : word.length ≤ 21) (hl : l.length ≤ 1000) (hx : ∀ x ∈ l, (pairB x).length ≤ 41) :
    (Lib.join (Lib.itoa root :: word :: dec cap :: [58] :: l.map pairB) [32]).length ≤ 1000000 := by
  rw [Lib.join_cons]
  have h2 := itoa_len root h0 h1
  have h3 := joinTail_len 41 (word :: dec cap :: [58] :: l.map pairB) (fun x hx2 => by
    rcases List.mem_cons.1 hx2 with rfl | hx2
    · omega
    · rcases List.mem_cons.1 hx2 with rfl | hx2
      · have := dec_len cap hc; omega
      · rcases List.mem_cons.1 hx2 with rfl | hx2
        · simp
        · obtain ⟨u, hu, rfl⟩ := List.mem_map.1 hx2
          exact hx u hu)
  simp only [List.length_cons, List.length_map] at h3
  rw [List.length_append]
  omega

set_option maxRecDepth 100000 in
set_option maxHeartbeats 4000000 in
theorem pair_any (p : Int × Int) (hp : PairOk p) (w : World) (htab : PowTab w) :
    Calls Tryd.prog 27 #[.agg #[.int .u64 p.1, .int .u64 p.2]] w fun e w' => e = .returned (.string (str (pairB p))) ∧ Below w.heap.size w w' := by
  have HT := Lib.hid htab
  have HP := Lib.hid hp
  have HBX : Hid (Bk (w.alloc (.cells #[.int .u64 p.1, .int .u64 p.2] 64)) w.heap.size 64 #[.int .u64 p.1, .int .u64 p.2]) := Bk.new w _ _
  have HB1 : Hid (Below w.heap.size w (w.alloc (.cells #[.int .u64 p.1, .int .u64 p.2] 64))) := (Below.refl _ _).alloc (Nat.le_refl _) _
  clear htab hp
  go_enter Tryd.func27, Tryd.ntmps27
  go_wp2_with fail
  obtain ⟨W1, hW1⟩ : ∃ W1, w.alloc (.cells #[.int .u64 p.1, .int .u64 p.2] 64) = W1 := ⟨_, rfl⟩
  rw [hW1] at HBX HB1 ⊢
  clear hW1
  have hz1 := HB1.out.size
  have hlt0 := HBX.out.lt
  have d0 := HBX.out.cell 0
  have d1 := HBX.out.cell 1
  simp at d0 d1
  have e0 : W1.drew.cell? ⟨w.heap.size, 0, none⟩ = some (.int .u64 p.1) := d0
  have e1 : W1.drew.cell? ⟨w.heap.size, 1, none⟩ = some (.int .u64 p.2) := d1
  have HTd : Hid (PowTab W1.drew) := HT.out.below HB1.out.drew
  have HBd := Lib.hid ((Below.refl W1.heap.size W1).drew)
  have hzd : W1.heap.size ≤ W1.drew.heap.size := Nat.le_refl _
  obtain ⟨V0, hV0⟩ : ∃ V, str (dec p.1) = V := ⟨_, rfl⟩
  have HV0 := Lib.hid hV0
  obtain ⟨V1, hV1⟩ : ∃ V, str (dec p.2) = V := ⟨_, rfl⟩
  have HV1 := Lib.hid hV1
  have q0 : ¬ (V0.size + 1 > 9223372036854775807) := by rw [← hV0, str_size]; have := dec_len p.1 HP.out.1.2; omega
  have q1 : ¬ (V0.size + 1 + V1.size > 9223372036854775807) := by rw [← hV0, ← hV1, str_size, str_size]; have := dec_len p.1 HP.out.1.2; have := dec_len p.2 HP.out.2.2; omega
  have HE : Hid (V0 ++ ⟨#[61]⟩ ++ V1 = str (pairB p)) := by
    show _ = _
    rw [← hV0, ← hV1, show (⟨#[61]⟩ : ByteArray) = str [61] from rfl, str_app, str_app]; rfl
  clear hV0 hV1
  go_region_held3 (fun w' => w'.cell? ⟨w.heap.size, 0, none⟩ = some (.int .u64 p.1) ∧ w'.cell? ⟨w.heap.size, 1, none⟩ = some (.int .u64 p.2))
    (first | exact ⟨e0, e1⟩ | exact ⟨d0, d1⟩ | go_keep)
    (first
      | (go_at_call 22
         refine (num_any _ (by first | exact HP.out.1.1 | exact HP.out.2.1) (by first | exact HP.out.1.2 | exact HP.out.2.2) _ HTd.out).mono ?_
         rintro e wn ⟨rfl, hbn⟩
         first | rw [HV0.out] | rw [HV1.out]
         have HTd := Lib.hid (HTd.out.below hbn)
         have HBd := Lib.hid (HBd.out.trans (hbn.mono hzd))
         have hzd := HBd.out.size
         have e0 := (hbn.cell (p := ⟨w.heap.size, 0, none⟩) (World.block_lt_of_cell? _ _ e0)).trans e0
         have e1 := (hbn.cell (p := ⟨w.heap.size, 1, none⟩) (World.block_lt_of_cell? _ _ e1)).trans e1
         clear hbn))
  all_goals
    have HBw := Lib.hid (HB1.out.trans (HBd.out.mono hz1))
    go_wp2
    go_ret
    exact ⟨by rw [← HE.out]; rfl, HBw.out⟩

def EachPostP (l : List (Int × Int)) (w : World) (e : Ending) (w' : World) : Prop :=
  ∃ v, e = .returned v ∧ w'.ownsRow w.heap.size 9 1 v l.length (l.map pairV) ∧ Below w.heap.size w w'
set_option maxRecDepth 100000 in
set_option maxHeartbeats 4000000 in
theorem eachp_any (l : List (Int × Int)) (A : Option Addr) (n c : Nat) (w : World) (hr : RdP w w.heap.size A n l) (hok : ∀ x ∈ l, PairOk x) (h48 : n ≤ 1000000) (htab : PowTab w) :
    Calls Tryd.prog 28 #[.slice A n c, .func (.func 27) #[] #[]] w (EachPostP l w) := by
  obtain ⟨i0, hi0, hy0, hy1, hy2⟩ := info_parts info_str
  have HR := Lib.hid hr
  have HLl := Lib.hid hr.pairLen
  have HK := Lib.hid hok
  have HT := Lib.hid htab
  clear hr hok htab
  go_enter Tryd.func28, Tryd.ntmps28
  go_wp2
  go_loopw [5, 7, 10] (fun out _x i wr => ∃ k : Nat, (k ≤ n ∧ i = .int .i64 k) ∧ wr.ownsRow w.heap.size 9 1 out k ((l.take k).map pairV) ∧ Below w.heap.size w wr) (fun _ _ i _ => n - (intOf i).toNat)
  case atStart => exact ⟨0, ⟨by omega, rfl⟩, World.ownsRow_nil _ _ _ _, Below.refl _ _⟩
  case round =>
    obtain ⟨k, ⟨hk, rfl⟩, hown, hb⟩ := hrel
    have HB := Lib.hid hb
    have HO := Lib.hid hown
    have hsz := hb.size
    have HTr : Hid (PowTab wr) := HT.out.below hb
    obtain ⟨Ao, co, rfl, hco, _⟩ := Rd.of_own_cap hown
    clear hown hb
    by_cases hlt : k < n
    · obtain ⟨x, hx⟩ : ∃ x, l[k]? = some x := ⟨_, List.getElem?_eq_getElem (by rw [HLl.out]; exact hlt)⟩
      obtain ⟨b, o, rfl, hbB, hcell⟩ := (HR.out.below HB.out).at_ (by omega)
      have q0 : wr.cell? ⟨b, o + k * 2, none⟩ = some (.int .u64 x.1) := hcell (k * 2) _ (pCells_at hx).1
      have q1 : wr.cell? ⟨b, o + k * 2 + 1, none⟩ = some (.int .u64 x.2) := hcell (k * 2 + 1) _ (pCells_at hx).2
      have HTk : Hid ((l.take (k + 1)).map pairV = (l.take k).map pairV ++ [pairV x]) := by show _ = _; rw [List.take_add_one, hx, List.map_append]; rfl
      have hxo := Lib.hid (HK.out x (List.mem_of_getElem? hx))
      clear hcell hx
      obtain ⟨D, hD⟩ : ∃ D, str (pairB x) = D := ⟨_, rfl⟩
      have HD := Lib.hid hD
      have HDv : Hid (pairV x = .string D) := by show _ = _; rw [pairV, hD]
      clear hD
      go_wp2_with fail
      refine (pair_any x hxo.out _ (HTr.out.below ((Below.refl _ _).alloc (Nat.le_refl _) _))).mono ?_
      rintro e w2 ⟨rfl, hb2⟩
      rw [HD.out]
      have HB2 := Lib.hid ((HB.out.alloc hsz _).trans (hb2.mono (by rw [World.size_alloc]; omega)))
      have HO2 := Lib.hid (own_below (HO.out.alloc _) hb2)
      have hz2 := HB2.out.size
      have RN : Hid (Rd (w2.alloc (.cells #[.string D] 9)) (w2.heap.size + 1) 1 (some ⟨w2.heap.size, 0, none⟩) 1 [.string D]) := Rd.newAt w2 _ _ _ rfl (size := 1) (m := 1) rfl (by simp [maxLen])
      clear hb2
      go_wp2_with (at_builtin; refine wpList_app _ (by rfl) (.tmp 14) (.tmp 18) 22 (by rfl) w.heap.size 9 i0 _ 1 16 Tryd.underlying22 hi0 hy0 hy1 hy2 rfl (by decide) (.slice Ao k co) k ((l.take k).map pairV) (by rfl) (HO2.out.alloc _) (w2.heap.size + 1) (some ⟨w2.heap.size, 0, none⟩) 1 1 [.string D] (by rfl) RN.out (by intro u hu; simp at hu; subst hu; rfl) (by unfold maxLen; omega) (by omega) (by rw [World.size_alloc]; omega) ?_)
      intro v5 w5 hown5 hg5 _
      have HO5 : Hid (w5.ownsRow w.heap.size 9 1 v5 (k + 1) ((l.take (k + 1)).map pairV)) := by
        show World.ownsRow _ _ _ _ _ _ _
        rw [HTk.out, HDv.out]
        first | exact hown5 | (rw [List.map_take]; exact hown5)
      have HB5 := Lib.hid (below_own (HB2.out.alloc hz2 _) (HO2.out.alloc _) hg5 (Nat.le_refl _) (by rw [World.size_alloc]; omega))
      clear hown5 hg5 RN
      go_wp2
      go_roundw
      case rel => exact ⟨k + 1, ⟨by omega, by go_num⟩, HO5.out, HB5.out⟩
      case measure => simp [intOf]; omega
    · obtain rfl : n = k := by omega
      have HE : Hid (wr.ownsRow w.heap.size 9 1 (.slice Ao n co) l.length (l.map pairV)) := by
        have h := HO.out
        rw [List.take_of_length_le (by rw [HLl.out]; exact Nat.le_refl _)] at h
        show World.ownsRow _ _ _ _ _ _ _
        rw [HLl.out]; exact h
      go_wp2
      go_ret
      exact ⟨_, rfl, HE.out, HB.out⟩

set_option maxRecDepth 100000 in
set_option maxHeartbeats 8000000 in
theorem thing_table (root cap : Int) (l : List (Int × Int)) (b : Nat) (A : Option Addr) (n c : Nat) (w : World) (hb : b < w.heap.size) (c0 : w.cell? ⟨b, 0, none⟩ = some (.int .u64 cap)) (c1 : w.cell? ⟨b, 1, none⟩ = some (.slice A n c)) (hr : RdP w w.heap.size A n l)
    (hr0 : -9223372036854775808 ≤ root) (hr1 : root ≤ 9223372036854775807) (hc0 : 0 ≤ cap) (hc1 : cap ≤ 18446744073709551615) (hok : ∀ x ∈ l, PairOk x) (h48 : n ≤ 1000) (htab : PowTab w) :
    Calls Tryd.prog 13 #[.int .i64 root, .agg #[.pointer none, .pointer none, .pointer (some ⟨b, 0, none⟩)]] w fun e w' => e = .returned (.string (str (thingP root #[116, 97, 98, 108, 101].toList cap (l.map pairB)))) ∧ Below w.heap.size w w' := by
  obtain ⟨i0, hi0, hy0, hy1, hy2⟩ := info_parts info_str
  have HR := Lib.hid hr
  have HLl := Lib.hid hr.pairLen
  have HK := Lib.hid hok
  have HT := Lib.hid htab
  have HRt := Lib.hid (And.intro hr0 hr1)
  have HCp := Lib.hid (And.intro hc0 hc1)
  have HBX : Hid (Bk (w.alloc (.cells #[.pointer none, .pointer none, .pointer (some ⟨b, 0, none⟩)] 46)) w.heap.size 46 #[.pointer none, .pointer none, .pointer (some ⟨b, 0, none⟩)]) := Bk.new w _ _
  have HB1 : Hid (Below w.heap.size w (w.alloc (.cells #[.pointer none, .pointer none, .pointer (some ⟨b, 0, none⟩)] 46))) := (Below.refl _ _).alloc (Nat.le_refl _) _
  clear hr hok htab hr0 hr1 hc0 hc1
  go_enter Tryd.func13, Tryd.ntmps13
  go_wp2_with fail
  obtain ⟨W1, hW1⟩ : ∃ W1, w.alloc (.cells #[.pointer none, .pointer none, .pointer (some ⟨b, 0, none⟩)] 46) = W1 := ⟨_, rfl⟩
  rw [hW1] at HBX HB1 ⊢
  clear hW1
  have hz1 := HB1.out.size
  have d0 := HBX.out.cell 2
  simp at d0
  have d1 := (HB1.out.cell (p := ⟨b, 0, none⟩) hb).trans c0
  have d2 := (HB1.out.cell (p := ⟨b, 1, none⟩) hb).trans c1
  have e0 : W1.drew.cell? ⟨w.heap.size, 2, none⟩ = some (.pointer (some ⟨b, 0, none⟩)) := d0
  have e1 : W1.drew.cell? ⟨b, 0, none⟩ = some (.int .u64 cap) := d1
  have e2 : W1.drew.cell? ⟨b, 1, none⟩ = some (.slice A n c) := d2
  have HTd : Hid (PowTab W1.drew) := HT.out.below HB1.out.drew
  have HBd := Lib.hid ((Below.refl W1.heap.size W1).drew)
  have hzd : W1.heap.size ≤ W1.drew.heap.size := Nat.le_refl _
  have hlt0 := HBX.out.lt
  have hltb : b < W1.heap.size := by omega
  obtain ⟨C, hC⟩ : ∃ C, str (dec cap) = C := ⟨_, rfl⟩
  have HC := Lib.hid hC
  clear hC c0 c1
  have hn6 : n ≤ 1000000 := by omega
  have hone : ∀ u ∈ l.map pairV, u.oneCell' = true := by
    intro u hu
    obtain ⟨x, _, rfl⟩ := List.mem_map.1 hu
    rfl
  have h63 : 3 + l.length ≤ maxLen := by rw [HLl.out]; unfold maxLen; omega
  have hby : (3 + l.length) * 16 ≤ 140737488355328 := by rw [HLl.out]; omega
  go_region_held3 (fun w' => w'.cell? ⟨w.heap.size, 2, none⟩ = some (.pointer (some ⟨b, 0, none⟩)) ∧ w'.cell? ⟨b, 0, none⟩ = some (.int .u64 cap) ∧ w'.cell? ⟨b, 1, none⟩ = some (.slice A n c))
    (first | exact ⟨g0, g1, g2⟩ | exact ⟨f0, f1, f2⟩ | exact ⟨e0, e1, e2⟩ | exact ⟨d0, d1, d2⟩ | go_keep)
    (first
      | (go_at_call 22
         refine (num_any cap HCp.out.1 HCp.out.2 _ HTd.out).mono ?_
         rintro e wn ⟨rfl, hbn⟩
         rw [HC.out]
         have HTd := Lib.hid (HTd.out.below hbn)
         have HBd := Lib.hid (HBd.out.trans (hbn.mono hzd))
         have hzd := HBd.out.size
         have e0 := (hbn.cell (p := ⟨w.heap.size, 2, none⟩) (World.block_lt_of_cell? _ _ e0)).trans e0
         have e1 := (hbn.cell (p := ⟨b, 0, none⟩) (World.block_lt_of_cell? _ _ e1)).trans e1
         have e2 := (hbn.cell (p := ⟨b, 1, none⟩) (World.block_lt_of_cell? _ _ e2)).trans e2
         have HOw : Hid ((wn.alloc (.cells #[.string ⟨#[116, 97, 98, 108, 101]⟩, .string C, .string ⟨#[58]⟩] 9)).ownsRow wn.heap.size 9 1 (.slice (some ⟨wn.heap.size, 0, none⟩) 3 3) 3 [.string ⟨#[116, 97, 98, 108, 101]⟩, .string C, .string ⟨#[58]⟩]) := own_new wn _ _ (size := 1) (m := 3) rfl (by simp [maxLen]) (Nat.le_refl _)
         have HBa := Lib.hid (HB1.out.trans ((HBd.out.alloc hzd (.cells #[.string ⟨#[116, 97, 98, 108, 101]⟩, .string C, .string ⟨#[58]⟩] 9)).mono hz1))
         have HRn : Hid (RdP (wn.alloc (.cells #[.string ⟨#[116, 97, 98, 108, 101]⟩, .string C, .string ⟨#[58]⟩] 9)) (wn.alloc (.cells #[.string ⟨#[116, 97, 98, 108, 101]⟩, .string C, .string ⟨#[58]⟩] 9)).heap.size A n l) := (HR.out.below HBa.out).more HBa.out.size
         have HRn0 : Hid (RdP wn wn.heap.size A n l) := (HR.out.below (HB1.out.trans (HBd.out.mono hz1))).more (HB1.out.trans (HBd.out.mono hz1)).size
         have HTn : Hid (PowTab (wn.alloc (.cells #[.string ⟨#[116, 97, 98, 108, 101]⟩, .string C, .string ⟨#[58]⟩] 9))) := HT.out.below HBa.out
         clear hbn)
      | (go_at_call 28
         refine (eachp_any l _ _ _ _ HRn0.out HK.out hn6 HTd.out).mono ?_
         rintro e wm ⟨vm, rfl, hom, hbm⟩
         obtain ⟨Am, cm, rfl, hcm, hrm⟩ := Rd.of_own_cap hom
         have HRq := Lib.hid (hrm.alloc (Nat.le_refl _) (.cells #[.string ⟨#[116, 97, 98, 108, 101]⟩, .string C, .string ⟨#[58]⟩] 9))
         have HOq : Hid ((wm.alloc (.cells #[.string ⟨#[116, 97, 98, 108, 101]⟩, .string C, .string ⟨#[58]⟩] 9)).ownsRow wm.heap.size 9 1 (.slice (some ⟨wm.heap.size, 0, none⟩) 3 3) 3 [.string ⟨#[116, 97, 98, 108, 101]⟩, .string C, .string ⟨#[58]⟩]) := own_new wm _ _ (size := 1) (m := 3) rfl (by simp [maxLen]) (Nat.le_refl _)
         have HBq := Lib.hid (HBd.out.trans (hbm.mono hzd))
         have hzq := HBq.out.size
         have hzq2 : wm.heap.size ≤ (wm.alloc (.cells #[.string ⟨#[116, 97, 98, 108, 101]⟩, .string C, .string ⟨#[58]⟩] 9)).heap.size := by rw [World.size_alloc]; omega
         have f0 := (hbm.cell (p := ⟨w.heap.size, 2, none⟩) (World.block_lt_of_cell? _ _ e0)).trans e0
         have f1 := (hbm.cell (p := ⟨b, 0, none⟩) (World.block_lt_of_cell? _ _ e1)).trans e1
         have f2 := (hbm.cell (p := ⟨b, 1, none⟩) (World.block_lt_of_cell? _ _ e2)).trans e2
         clear hbm hom hrm)
      | (go_at_call 28
         refine (eachp_any l _ _ _ _ HRn.out HK.out hn6 HTn.out).mono ?_
         rintro e wm ⟨vm, rfl, hom, hbm⟩
         obtain ⟨Am, cm, rfl, hcm, hrm⟩ := Rd.of_own_cap hom
         have HRm := Lib.hid hrm
         have HOm := Lib.hid (own_below HOw.out hbm)
         have HBm := Lib.hid ((HBd.out.alloc hzd (.cells #[.string ⟨#[116, 97, 98, 108, 101]⟩, .string C, .string ⟨#[58]⟩] 9)).trans (hbm.mono (by rw [World.size_alloc]; omega)))
         have hzm := HBm.out.size
         have hzn : wn.heap.size ≤ wm.heap.size := by have := hbm.size; rw [World.size_alloc] at this; omega
         have f1 := (hbm.cell (p := ⟨b, 0, none⟩) (by have := World.block_lt_of_cell? _ _ e1; rw [World.size_alloc]; omega)).trans ((World.cell?_alloc_old _ _ _ (Nat.ne_of_lt (World.block_lt_of_cell? _ _ e1))).trans e1)
         have f2 := (hbm.cell (p := ⟨b, 1, none⟩) (by have := World.block_lt_of_cell? _ _ e2; rw [World.size_alloc]; omega)).trans ((World.cell?_alloc_old _ _ _ (Nat.ne_of_lt (World.block_lt_of_cell? _ _ e2))).trans e2)
         have f0 := (hbm.cell (p := ⟨w.heap.size, 2, none⟩) (by have := World.block_lt_of_cell? _ _ e0; rw [World.size_alloc]; omega)).trans ((World.cell?_alloc_old _ _ _ (Nat.ne_of_lt (World.block_lt_of_cell? _ _ e0))).trans e0)
         clear hbm hom hrm)
      | (refine step_app _ (by rfl) _ _ _ (by rfl) wm.heap.size 9 i0 _ 1 16 Tryd.underlying22 hi0 hy0 hy1 hy2 rfl (by decide) (.slice (some ⟨wm.heap.size, 0, none⟩) 3 3) 3 [.string ⟨#[116, 97, 98, 108, 101]⟩, .string C, .string ⟨#[58]⟩] (by rfl) HOq.out wm.heap.size Am l.length cm (l.map pairV) (by rfl) HRq.out hone h63 hby hzq2 ?_
         intro v5 w5 hown5 hg5 _
         have hb5 := below_own (HBq.out.alloc hzq _) HOq.out hg5 hzq (Nat.le_trans hzq hzq2)
         have g0 := (hb5.cell (p := ⟨w.heap.size, 2, none⟩) hlt0).trans d0
         have g1 := (hb5.cell (p := ⟨b, 0, none⟩) hltb).trans d1
         have g2 := (hb5.cell (p := ⟨b, 1, none⟩) hltb).trans d2)
      | (refine step_app _ (by rfl) _ _ _ (by rfl) wn.heap.size 9 i0 _ 1 16 Tryd.underlying22 hi0 hy0 hy1 hy2 rfl (by decide) (.slice (some ⟨wn.heap.size, 0, none⟩) 3 3) 3 [.string ⟨#[116, 97, 98, 108, 101]⟩, .string C, .string ⟨#[58]⟩] (by rfl) HOm.out wm.heap.size Am l.length cm (l.map pairV) (by rfl) HRm.out hone h63 hby hzn ?_
         intro v5 w5 hown5 hg5 _
         have hb5 := below_own HBm.out HOm.out hg5 hzd hzm
         have g0 := (hb5.cell (p := ⟨w.heap.size, 2, none⟩) hlt0).trans d0
         have g1 := (hb5.cell (p := ⟨b, 0, none⟩) hltb).trans d1
         have g2 := (hb5.cell (p := ⟨b, 1, none⟩) hltb).trans d2))
  all_goals
    have HB5 := Lib.hid (HB1.out.trans (hb5.mono hz1))
    obtain ⟨A5, c5, hv5, _, hr5⟩ := Rd.of_own_cap hown5
    subst hv5
    have HR5 := Lib.hid hr5
    have hz5 := HB5.out.size
    clear hb5 hown5 hg5 g0 g1 g2 f0 f1 f2 e0 e1 e2 d0 d1 d2 hr5
    obtain ⟨I, hI⟩ : ∃ I, str (Lib.itoa root) = I := ⟨_, rfl⟩
    have HI := Lib.hid hI
    clear hI
    go_wp2_with fail
    refine (itoa_any root HRt.out.1 HRt.out.2 _ (HT.out.below HB5.out)).mono ?_
    rintro e w6 ⟨rfl, hb6⟩
    rw [HI.out]
    have HB6 := Lib.hid (HB5.out.trans (hb6.mono hz5))
    have hz6 := HB6.out.size
    have HR6 := Lib.hid ((HR5.out.below hb6).more hb6.size)
    have HOw6 : Hid ((w6.alloc (.cells #[.string I] 9)).ownsRow w6.heap.size 9 1 (.slice (some ⟨w6.heap.size, 0, none⟩) 1 1) 1 [.string I]) := own_new w6 _ _ (size := 1) (m := 1) rfl (by simp [maxLen]) (Nat.le_refl _)
    clear hb6
    go_wp2_with (at_builtin; refine wpList_app _ (by rfl) (.tmp 64) (.tmp 65) 22 (by rfl) w6.heap.size 9 i0 _ 1 16 Tryd.underlying22 hi0 hy0 hy1 hy2 rfl (by decide) (.slice (some ⟨w6.heap.size, 0, none⟩) 1 1) 1 [.string I] (by rfl) HOw6.out w6.heap.size A5 (3 + l.length) c5 ([.string ⟨#[116, 97, 98, 108, 101]⟩, .string C, .string ⟨#[58]⟩] ++ l.map pairV) (by rfl) (HR6.out.alloc (Nat.le_refl _) _) (by intro u hu; rcases List.mem_append.1 hu with h | h; (simp at h; rcases h with rfl | rfl | rfl <;> rfl); (obtain ⟨x, _, rfl⟩ := List.mem_map.1 h; rfl)) (by rw [HLl.out]; unfold maxLen; omega) (by rw [HLl.out]; omega) (by rw [World.size_alloc]; omega) ?_)
    intro v7 w7 hown7 hg7 _
    obtain ⟨A7, c7, hv7, hc7, hr7⟩ := Rd.of_own_cap hown7
    subst hv7
    have HB7 := Lib.hid (below_own (HB6.out.alloc hz6 _) HOw6.out hg7 hz6 (by rw [World.size_alloc]; omega))
    have hz7 := HB7.out.size
    have HR7 : Hid (RdS w7 w7.heap.size A7 (1 + (3 + l.length)) ([I, ⟨#[116, 97, 98, 108, 101]⟩, C, ⟨#[58]⟩] ++ l.map fun u => str (pairB u))) := by
      show Rd _ _ _ _ _ _
      have e : ([I, ⟨#[116, 97, 98, 108, 101]⟩, C, ⟨#[58]⟩] ++ l.map fun u => str (pairB u)).map Value.string = [.string I] ++ ([.string ⟨#[116, 97, 98, 108, 101]⟩, .string C, .string ⟨#[58]⟩] ++ l.map pairV) := by
        simp only [List.map_append, List.map_cons, List.map_nil, List.map_map]
        rfl
      rw [e]; exact hr7
    have HX : Hid (([I, ⟨#[116, 97, 98, 108, 101]⟩, C, ⟨#[58]⟩] ++ l.map fun u => str (pairB u)).map (·.data.toList) = Lib.itoa root :: #[116, 97, 98, 108, 101].toList :: dec cap :: [58] :: l.map pairB) := by
      show _ = _
      simp only [List.map_cons, List.map_map, ← HI.out, ← HC.out, str_list, List.cons_append, List.nil_append]
      congr 4
    have HLe : Hid ((Lib.join (Lib.itoa root :: #[116, 97, 98, 108, 101].toList :: dec cap :: [58] :: l.map pairB) [32]).length ≤ 1000000) := thing_lenp root cap _ l HRt.out.1 HRt.out.2 HCp.out.2 (by decide) (by rw [HLl.out]; exact h48) (fun x hx => pair_len x (HK.out x hx))
    clear hown7 hg7 hr7 HOw6
    go_wp2_with fail
    refine (line_any _ _ _ _ _ HR7.out (by omega) (by rw [HLl.out]; omega) hc7 (by rw [HX.out]; exact HLe.out)).mono ?_
    rintro e w8 ⟨rfl, hb8⟩
    rw [HX.out]
    have HB8 := Lib.hid (HB7.out.trans (hb8.mono hz7))
    clear hb8
    go_wp2
    go_ret
    exact ⟨rfl, HB8.out⟩
end Go.Proofs.YthklmcpjlpaklaaDoor
