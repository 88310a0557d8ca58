import Derived.Test.YtiiaingepbkikaaGreatDoorWoAD
import Derived.Test.YtiiaingepbkikaaGreatDoorWoAB
import Derived.Lib.ItoaLen
import Derived.Deep.RegionHeld3
import Derived.Deep.RegionLaw
import Derived.Deep.Cut
import Derived.Deep.CutRange
import Derived.Deep.DeepCutAuto
namespace Go.Proofs.YtiiaingepbkikaaGreatDoor
open Go.RowKit
set_option linter.unusedVariables false
def pairB (p : Int × Int) : Bys := dec p.1 ++ [61] ++ dec p.2
def pairV (p : Int × Int) : Value := .string (str (pairB p))
def PairOk (p : Int × Int) : Prop := (0 ≤ p.1 ∧ p.1 ≤ 18446744073709551615) ∧ (0 ≤ p.2 ∧ p.2 ≤ 18446744073709551615)
def pCells (l : List (Int × Int)) : List Value := l.flatMap fun p => [.int .u64 p.1, .int .u64 p.2]
theorem pCells_len (l : List (Int × Int)) : (pCells l).length = l.length * 2 := by
 induction l with
 | nil => rfl
 | cons p l ih => rw [pCells, List.flatMap_cons, List.length_append, ← pCells, ih]; simp; omega
theorem pCells_at {l : List (Int × Int)} {k : Nat} {p : Int × Int} (h : l[k]? = some p) : (pCells l)[k * 2]? = some (.int .u64 p.1) ∧ (pCells l)[k * 2 + 1]? = some (.int .u64 p.2) := by
 induction l generalizing k with
 | nil => simp at h
 | cons q l ih =>
   rcases k with _ | k
   ·obtain rfl : q = p := by simpa using h
    exact ⟨rfl, rfl⟩
   ·have h' := ih (k := k) (by simpa using h)
    have e : pCells (q :: l) = Value.int .u64 q.1 :: .int .u64 q.2 :: pCells l := rfl
    rw [e, show (k + 1) * 2 = k * 2 + 1 + 1 by omega]
    exact ⟨by simpa using h'.1, by simpa using h'.2⟩
theorem pCells_app (l r : List (Int × Int)) : pCells (l ++ r) = pCells l ++ pCells r := by simp [pCells]
abbrev RdP (w : World) (B : Nat) (A : Option Addr) (n : Nat) (l : List (Int × Int)) : Prop := Rd w B 2 A n (pCells l)
theorem Rd.pairLen {w : World} {B n : Nat} {A : Option Addr} {l : List (Int × Int)} (h : RdP w B A n l) : l.length = n := by
 have := h.len; rw [pCells_len] at this; omega
theorem pair_len (p : Int × Int) (h : PairOk p) : (pairB p).length ≤ 41 := by
 have h1 := dec_len p.1 h.1.2
 have h2 := dec_len p.2 h.2.2
 simp only [pairB, List.length_append, List.length_cons, List.length_nil]
 omega
theorem thing_lenp (root cap : Int) (word : Bys) (l : List (Int × Int)) (h0 : -9223372036854775808 ≤ root) (h1 : root ≤ 9223372036854775807) (hc : cap ≤ 18446744073709551615) (hw : word.length ≤ 21) (hl : l.length ≤ 1000) (hx : ∀ x ∈ l, (pairB x).length ≤ 41) :
 (Lib.join (Lib.itoa root :: word :: dec cap :: [58] :: l.map pairB) [32]).length ≤ 1000000 := by
 rw [Lib.join_cons]
 have h2 := itoa_len root h0 h1
 have h3 := joinTail_len 41 (word :: dec cap :: [58] :: l.map pairB) (fun x hx2 => by
  rcases List.mem_cons.1 hx2 with rfl | hx2
  ·omega
  ·rcases List.mem_cons.1 hx2 with rfl | hx2
   ·have := dec_len cap hc; omega
   ·rcases List.mem_cons.1 hx2 with rfl | hx2
    ·simp
    ·obtain ⟨u, hu, rfl⟩ := List.mem_map.1 hx2
     exact hx u hu)
 simp only [List.length_cons, List.length_map] at h3
 rw [List.length_append]
 omega
set_option maxRecDepth 100000 in
set_option maxHeartbeats 4000000 in
theorem pair_any (p : Int × Int) (hp : PairOk p) (w : World) (htab : PowTab w) :
 Calls Tryz.prog 37 #[.agg #[.int .u64 p.1, .int .u64 p.2]] w fun e w' => e = .returned (.string (str (pairB p))) ∧ Below w.heap.size w w' := by
 have HT := Lib.hid htab
 have HP := Lib.hid hp
 have HBX : Hid (Bk (w.alloc (.cells #[.int .u64 p.1, .int .u64 p.2] 112)) w.heap.size 112 #[.int .u64 p.1, .int .u64 p.2]) := Bk.new w _ _
 have HB1 : Hid (Below w.heap.size w (w.alloc (.cells #[.int .u64 p.1, .int .u64 p.2] 112))) := (Below.refl _ _).alloc (Nat.le_refl _) _
 clear htab hp
 go_enter Tryz.func37, Tryz.ntmps37
 go_wp2_with fail
 obtain ⟨W1, hW1⟩ : ∃ W1, w.alloc (.cells #[.int .u64 p.1, .int .u64 p.2] 112) = W1 := ⟨_, rfl⟩
 rw [hW1] at HBX HB1 ⊢
 clear hW1
 have hz1 := HB1.out.size
 have hlt0 := HBX.out.lt
 have d0 := HBX.out.cell 0
 have d1 := HBX.out.cell 1
 simp at d0 d1
 have e0 : W1.drew.cell? ⟨w.heap.size, 0, none⟩ = some (.int .u64 p.1) := d0
 have e1 : W1.drew.cell? ⟨w.heap.size, 1, none⟩ = some (.int .u64 p.2) := d1
 have HTd : Hid (PowTab W1.drew) := HT.out.below HB1.out.drew
 have HBd := Lib.hid ((Below.refl W1.heap.size W1).drew)
 have hzd : W1.heap.size ≤ W1.drew.heap.size := Nat.le_refl _
 obtain ⟨V0, hV0⟩ : ∃ V, str (dec p.1) = V := ⟨_, rfl⟩
 have HV0 := Lib.hid hV0
 obtain ⟨V1, hV1⟩ : ∃ V, str (dec p.2) = V := ⟨_, rfl⟩
 have HV1 := Lib.hid hV1
 have q0 : ¬ (V0.size + 1 > 9223372036854775807) := by rw [← hV0, str_size]; have := dec_len p.1 HP.out.1.2; omega
 have q1 : ¬ (V0.size + 1 + V1.size > 9223372036854775807) := by rw [← hV0, ← hV1, str_size, str_size]; have := dec_len p.1 HP.out.1.2; have := dec_len p.2 HP.out.2.2; omega
 have HE : Hid (V0 ++ ⟨#[61]⟩ ++ V1 = str (pairB p)) := by
  show _ = _
  rw [← hV0, ← hV1, show (⟨#[61]⟩ : ByteArray) = str [61] from rfl, str_app, str_app]; rfl
 clear hV0 hV1
 go_region_held3 (fun w' => w'.cell? ⟨w.heap.size, 0, none⟩ = some (.int .u64 p.1) ∧ w'.cell? ⟨w.heap.size, 1, none⟩ = some (.int .u64 p.2))
  (first | exact ⟨e0, e1⟩ | exact ⟨d0, d1⟩ | go_keep)
  (first
    | (go_at_call 35
       refine (num_any _ (by first | exact HP.out.1.1 | exact HP.out.2.1) (by first | exact HP.out.1.2 | exact HP.out.2.2) _ HTd.out).mono ?_
       rintro e wn ⟨rfl, hbn⟩
       first | rw [HV0.out] | rw [HV1.out]
       have HTd := Lib.hid (HTd.out.below hbn)
       have HBd := Lib.hid (HBd.out.trans (hbn.mono hzd))
       have hzd := HBd.out.size
       have e0 := (hbn.cell (p := ⟨w.heap.size, 0, none⟩) (World.block_lt_of_cell? _ _ e0)).trans e0
       have e1 := (hbn.cell (p := ⟨w.heap.size, 1, none⟩) (World.block_lt_of_cell? _ _ e1)).trans e1
       clear hbn))
 all_goals
  have HBw := Lib.hid (HB1.out.trans (HBd.out.mono hz1))
  go_wp2
  go_ret
  exact ⟨by rw [← HE.out]; rfl, HBw.out⟩
def EachPostP (l : List (Int × Int)) (w : World) (e : Ending) (w' : World) : Prop :=
 ∃ v, e = .returned v ∧ w'.ownsRow w.heap.size 9 1 v l.length (l.map pairV) ∧ Below w.heap.size w w'
set_option maxRecDepth 100000 in
set_option maxHeartbeats 4000000 in
theorem eachp_any (l : List (Int × Int)) (A : Option Addr) (n c : Nat) (w : World) (hr : RdP w w.heap.size A n l) (hok : ∀ x ∈ l, PairOk x) (h48 : n ≤ 1000000) (htab : PowTab w) :
 Calls Tryz.prog 38 #[.slice A n c, .func (.func 37) #[] #[]] w (EachPostP l w) := by
 obtain ⟨i0, hi0, hy0, hy1, hy2⟩ := info_parts info_str
 have HR := Lib.hid hr
 have HLl := Lib.hid hr.pairLen
 have HK := Lib.hid hok
 have HT := Lib.hid htab
 clear hr hok htab
 go_enter Tryz.func38, Tryz.ntmps38
 go_wp2
 go_loopw [5, 7, 10] (fun out _x i wr => ∃ k : Nat, (k ≤ n ∧ i = .int .i64 k) ∧ wr.ownsRow w.heap.size 9 1 out k ((l.take k).map pairV) ∧ Below w.heap.size w wr) (fun _ _ i _ => n - (intOf i).toNat)
 case atStart => exact ⟨0, ⟨by omega, rfl⟩, World.ownsRow_nil _ _ _ _, Below.refl _ _⟩
 case round =>
  obtain ⟨k, ⟨hk, rfl⟩, hown, hb⟩ := hrel
  have HB := Lib.hid hb
  have HO := Lib.hid hown
  have hsz := hb.size
  have HTr : Hid (PowTab wr) := HT.out.below hb
  obtain ⟨Ao, co, rfl, hco, _⟩ := Rd.of_own_cap hown
  clear hown hb
  by_cases hlt : k < n
  ·obtain ⟨x, hx⟩ : ∃ x, l[k]? = some x := ⟨_, List.getElem?_eq_getElem (by rw [HLl.out]; exact hlt)⟩
   obtain ⟨b, o, rfl, hbB, hcell⟩ := (HR.out.below HB.out).at_ (by omega)
   have q0 : wr.cell? ⟨b, o + k * 2, none⟩ = some (.int .u64 x.1) := hcell (k * 2) _ (pCells_at hx).1
   have q1 : wr.cell? ⟨b, o + k * 2 + 1, none⟩ = some (.int .u64 x.2) := hcell (k * 2 + 1) _ (pCells_at hx).2
   have HTk : Hid ((l.take (k + 1)).map pairV = (l.take k).map pairV ++ [pairV x]) := by show _ = _; rw [List.take_add_one, hx, List.map_append]; rfl
   have hxo := Lib.hid (HK.out x (List.mem_of_getElem? hx))
   clear hcell hx
   obtain ⟨D, hD⟩ : ∃ D, str (pairB x) = D := ⟨_, rfl⟩
   have HD := Lib.hid hD
   have HDv : Hid (pairV x = .string D) := by show _ = _; rw [pairV, hD]
   clear hD
   go_wp2_with fail
   refine (pair_any x hxo.out _ (HTr.out.below ((Below.refl _ _).alloc (Nat.le_refl _) _))).mono ?_
   rintro e w2 ⟨rfl, hb2⟩
   rw [HD.out]
   have HB2 := Lib.hid ((HB.out.alloc hsz _).trans (hb2.mono (by rw [World.size_alloc]; omega)))
   have HO2 := Lib.hid (own_below (HO.out.alloc _) hb2)
   have hz2 := HB2.out.size
   have RN : Hid (Rd (w2.alloc (.cells #[.string D] 9)) (w2.heap.size + 1) 1 (some ⟨w2.heap.size, 0, none⟩) 1 [.string D]) := Rd.newAt w2 _ _ _ rfl (size := 1) (m := 1) rfl (by simp [maxLen])
   clear hb2
   go_wp2_with (at_builtin; refine wpList_app _ (by rfl) (.tmp 14) (.tmp 18) 67 (by rfl) w.heap.size 9 i0 _ 1 16 Tryz.underlying67 hi0 hy0 hy1 hy2 rfl (by decide) (.slice Ao k co) k ((l.take k).map pairV) (by rfl) (HO2.out.alloc _) (w2.heap.size + 1) (some ⟨w2.heap.size, 0, none⟩) 1 1 [.string D] (by rfl) RN.out (by intro u hu; simp at hu; subst hu; rfl) (by unfold maxLen; omega) (by omega) (by rw [World.size_alloc]; omega) ?_)
   intro v5 w5 hown5 hg5 _
   have HO5 : Hid (w5.ownsRow w.heap.size 9 1 v5 (k + 1) ((l.take (k + 1)).map pairV)) := by
    show World.ownsRow _ _ _ _ _ _ _
    rw [HTk.out, HDv.out]
    first | exact hown5 | (rw [List.map_take]; exact hown5)
   have HB5 := Lib.hid (below_own (HB2.out.alloc hz2 _) (HO2.out.alloc _) hg5 (Nat.le_refl _) (by rw [World.size_alloc]; omega))
   clear hown5 hg5 RN
   go_wp2
   go_roundw
   case rel => exact ⟨k + 1, ⟨by omega, by go_num⟩, HO5.out, HB5.out⟩
   case measure => simp [intOf]; omega
  ·obtain rfl : n = k := by omega
   have HE : Hid (wr.ownsRow w.heap.size 9 1 (.slice Ao n co) l.length (l.map pairV)) := by
    have h := HO.out
    rw [List.take_of_length_le (by rw [HLl.out]; exact Nat.le_refl _)] at h
    show World.ownsRow _ _ _ _ _ _ _
    rw [HLl.out]; exact h
   go_wp2
   go_ret
   exact ⟨_, rfl, HE.out, HB.out⟩
set_option maxRecDepth 100000 in
set_option maxHeartbeats 8000000 in
theorem thing_table (root cap : Int) (l : List (Int × Int)) (b : Nat) (A : Option Addr) (n c : Nat) (w : World) (hb : b < w.heap.size) (c0 : w.cell? ⟨b, 0, none⟩ = some (.int .u64 cap)) (c1 : w.cell? ⟨b, 1, none⟩ = some (.slice A n c)) (hr : RdP w w.heap.size A n l)
 (hr0 : -9223372036854775808 ≤ root) (hr1 : root ≤ 9223372036854775807) (hc0 : 0 ≤ cap) (hc1 : cap ≤ 18446744073709551615) (hok : ∀ x ∈ l, PairOk x) (h48 : n ≤ 1000) (htab : PowTab w) :
 Calls Tryz.prog 15 #[.int .i64 root, .agg #[.pointer none, .pointer none, .pointer (some ⟨b, 0, none⟩)]] w fun e w' => e = .returned (.string (str (thingP root #[116, 97, 98, 108, 101].toList cap (l.map pairB)))) ∧ Below w.heap.size w w' := by
 obtain ⟨i0, hi0, hy0, hy1, hy2⟩ := info_parts info_str
 have HR := Lib.hid hr
 have HLl := Lib.hid hr.pairLen
 have HK := Lib.hid hok
 have HT := Lib.hid htab
 have HRt := Lib.hid (And.intro hr0 hr1)
 have HCp := Lib.hid (And.intro hc0 hc1)
 have HBX : Hid (Bk (w.alloc (.cells #[.pointer none, .pointer none, .pointer (some ⟨b, 0, none⟩)] 75)) w.heap.size 75 #[.pointer none, .pointer none, .pointer (some ⟨b, 0, none⟩)]) := Bk.new w _ _
 have HB1 : Hid (Below w.heap.size w (w.alloc (.cells #[.pointer none, .pointer none, .pointer (some ⟨b, 0, none⟩)] 75))) := (Below.refl _ _).alloc (Nat.le_refl _) _
 clear hr hok htab hr0 hr1 hc0 hc1
 go_enter Tryz.func15, Tryz.ntmps15
 go_wp2_with fail
 obtain ⟨W1, hW1⟩ : ∃ W1, w.alloc (.cells #[.pointer none, .pointer none, .pointer (some ⟨b, 0, none⟩)] 75) = W1 := ⟨_, rfl⟩
 rw [hW1] at HBX HB1 ⊢
 clear hW1
 have hz1 := HB1.out.size
 have d0 := HBX.out.cell 2
 simp at d0
 have d1 := (HB1.out.cell (p := ⟨b, 0, none⟩) hb).trans c0
 have d2 := (HB1.out.cell (p := ⟨b, 1, none⟩) hb).trans c1
 have e0 : W1.drew.cell? ⟨w.heap.size, 2, none⟩ = some (.pointer (some ⟨b, 0, none⟩)) := d0
 have e1 : W1.drew.cell? ⟨b, 0, none⟩ = some (.int .u64 cap) := d1
 have e2 : W1.drew.cell? ⟨b, 1, none⟩ = some (.slice A n c) := d2
 have HTd : Hid (PowTab W1.drew) := HT.out.below HB1.out.drew
 have HBd := Lib.hid ((Below.refl W1.heap.size W1).drew)
 have hzd : W1.heap.size ≤ W1.drew.heap.size := Nat.le_refl _
 have hlt0 := HBX.out.lt
 have hltb : b < W1.heap.size := by omega
 obtain ⟨C, hC⟩ : ∃ C, str (dec cap) = C := ⟨_, rfl⟩
 have HC := Lib.hid hC
 clear hC c0 c1
 have hn6 : n ≤ 1000000 := by omega
 have hone : ∀ u ∈ l.map pairV, u.oneCell' = true := by
  intro u hu
  obtain ⟨x, _, rfl⟩ := List.mem_map.1 hu
  rfl
 have h63 : 3 + l.length ≤ maxLen := by rw [HLl.out]; unfold maxLen; omega
 have hby : (3 + l.length) * 16 ≤ 140737488355328 := by rw [HLl.out]; omega
 go_region_held3 (fun w' => w'.cell? ⟨w.heap.size, 2, none⟩ = some (.pointer (some ⟨b, 0, none⟩)) ∧ w'.cell? ⟨b, 0, none⟩ = some (.int .u64 cap) ∧ w'.cell? ⟨b, 1, none⟩ = some (.slice A n c))
  (first | exact ⟨g0, g1, g2⟩ | exact ⟨f0, f1, f2⟩ | exact ⟨e0, e1, e2⟩ | exact ⟨d0, d1, d2⟩ | go_keep)
  (first
    | (go_at_call 35
       refine (num_any cap HCp.out.1 HCp.out.2 _ HTd.out).mono ?_
       rintro e wn ⟨rfl, hbn⟩
       rw [HC.out]
       have HTd := Lib.hid (HTd.out.below hbn)
       have HBd := Lib.hid (HBd.out.trans (hbn.mono hzd))
       have hzd := HBd.out.size
       have e0 := (hbn.cell (p := ⟨w.heap.size, 2, none⟩) (World.block_lt_of_cell? _ _ e0)).trans e0
       have e1 := (hbn.cell (p := ⟨b, 0, none⟩) (World.block_lt_of_cell? _ _ e1)).trans e1
       have e2 := (hbn.cell (p := ⟨b, 1, none⟩) (World.block_lt_of_cell? _ _ e2)).trans e2
       have HOw : Hid ((wn.alloc (.cells #[.string ⟨#[116, 97, 98, 108, 101]⟩, .string C, .string ⟨#[58]⟩] 9)).ownsRow wn.heap.size 9 1 (.slice (some ⟨wn.heap.size, 0, none⟩) 3 3) 3 [.string ⟨#[116, 97, 98, 108, 101]⟩, .string C, .string ⟨#[58]⟩]) := own_new wn _ _ (size := 1) (m := 3) rfl (by simp [maxLen]) (Nat.le_refl _)
       have HBa := Lib.hid (HB1.out.trans ((HBd.out.alloc hzd (.cells #[.string ⟨#[116, 97, 98, 108, 101]⟩, .string C, .string ⟨#[58]⟩] 9)).mono hz1))
       have HRn : Hid (RdP (wn.alloc (.cells #[.string ⟨#[116, 97, 98, 108, 101]⟩, .string C, .string ⟨#[58]⟩] 9)) (wn.alloc (.cells #[.string ⟨#[116, 97, 98, 108, 101]⟩, .string C, .string ⟨#[58]⟩] 9)).heap.size A n l) := (HR.out.below HBa.out).more HBa.out.size
       have HRn0 : Hid (RdP wn wn.heap.size A n l) := (HR.out.below (HB1.out.trans (HBd.out.mono hz1))).more (HB1.out.trans (HBd.out.mono hz1)).size
       have HTn : Hid (PowTab (wn.alloc (.cells #[.string ⟨#[116, 97, 98, 108, 101]⟩, .string C, .string ⟨#[58]⟩] 9))) := HT.out.below HBa.out
       clear hbn)
    | (go_at_call 38
       refine (eachp_any l _ _ _ _ HRn0.out HK.out hn6 HTd.out).mono ?_
       rintro e wm ⟨vm, rfl, hom, hbm⟩
       obtain ⟨Am, cm, rfl, hcm, hrm⟩ := Rd.of_own_cap hom
       have HRq := Lib.hid (hrm.alloc (Nat.le_refl _) (.cells #[.string ⟨#[116, 97, 98, 108, 101]⟩, .string C, .string ⟨#[58]⟩] 9))
       have HOq : Hid ((wm.alloc (.cells #[.string ⟨#[116, 97, 98, 108, 101]⟩, .string C, .string ⟨#[58]⟩] 9)).ownsRow wm.heap.size 9 1 (.slice (some ⟨wm.heap.size, 0, none⟩) 3 3) 3 [.string ⟨#[116, 97, 98, 108, 101]⟩, .string C, .string ⟨#[58]⟩]) := own_new wm _ _ (size := 1) (m := 3) rfl (by simp [maxLen]) (Nat.le_refl _)
       have HBq := Lib.hid (HBd.out.trans (hbm.mono hzd))
       have hzq := HBq.out.size
       have hzq2 : wm.heap.size ≤ (wm.alloc (.cells #[.string ⟨#[116, 97, 98, 108, 101]⟩, .string C, .string ⟨#[58]⟩] 9)).heap.size := by rw [World.size_alloc]; omega
       have f0 := (hbm.cell (p := ⟨w.heap.size, 2, none⟩) (World.block_lt_of_cell? _ _ e0)).trans e0
       have f1 := (hbm.cell (p := ⟨b, 0, none⟩) (World.block_lt_of_cell? _ _ e1)).trans e1
       have f2 := (hbm.cell (p := ⟨b, 1, none⟩) (World.block_lt_of_cell? _ _ e2)).trans e2
       clear hbm hom hrm)
    | (go_at_call 38
       refine (eachp_any l _ _ _ _ HRn.out HK.out hn6 HTn.out).mono ?_
       rintro e wm ⟨vm, rfl, hom, hbm⟩
       obtain ⟨Am, cm, rfl, hcm, hrm⟩ := Rd.of_own_cap hom
       have HRm := Lib.hid hrm
       have HOm := Lib.hid (own_below HOw.out hbm)
       have HBm := Lib.hid ((HBd.out.alloc hzd (.cells #[.string ⟨#[116, 97, 98, 108, 101]⟩, .string C, .string ⟨#[58]⟩] 9)).trans (hbm.mono (by rw [World.size_alloc]; omega)))
       have hzm := HBm.out.size
       have hzn : wn.heap.size ≤ wm.heap.size := by have := hbm.size; rw [World.size_alloc] at this; omega
       have f1 := (hbm.cell (p := ⟨b, 0, none⟩) (by have := World.block_lt_of_cell? _ _ e1; rw [World.size_alloc]; omega)).trans ((World.cell?_alloc_old _ _ _ (Nat.ne_of_lt (World.block_lt_of_cell? _ _ e1))).trans e1)
       have f2 := (hbm.cell (p := ⟨b, 1, none⟩) (by have := World.block_lt_of_cell? _ _ e2; rw [World.size_alloc]; omega)).trans ((World.cell?_alloc_old _ _ _ (Nat.ne_of_lt (World.block_lt_of_cell? _ _ e2))).trans e2)
       have f0 := (hbm.cell (p := ⟨w.heap.size, 2, none⟩) (by have := World.block_lt_of_cell? _ _ e0; rw [World.size_alloc]; omega)).trans ((World.cell?_alloc_old _ _ _ (Nat.ne_of_lt (World.block_lt_of_cell? _ _ e0))).trans e0)
       clear hbm hom hrm)
    | (refine step_app _ (by rfl) _ _ _ (by rfl) wm.heap.size 9 i0 _ 1 16 Tryz.underlying67 hi0 hy0 hy1 hy2 rfl (by decide) (.slice (some ⟨wm.heap.size, 0, none⟩) 3 3) 3 [.string ⟨#[116, 97, 98, 108, 101]⟩, .string C, .string ⟨#[58]⟩] (by rfl) HOq.out wm.heap.size Am l.length cm (l.map pairV) (by rfl) HRq.out hone h63 hby hzq2 ?_
       intro v5 w5 hown5 hg5 _
       have hb5 := below_own (HBq.out.alloc hzq _) HOq.out hg5 hzq (Nat.le_trans hzq hzq2)
       have g0 := (hb5.cell (p := ⟨w.heap.size, 2, none⟩) hlt0).trans d0
       have g1 := (hb5.cell (p := ⟨b, 0, none⟩) hltb).trans d1
       have g2 := (hb5.cell (p := ⟨b, 1, none⟩) hltb).trans d2)
    | (refine step_app _ (by rfl) _ _ _ (by rfl) wn.heap.size 9 i0 _ 1 16 Tryz.underlying67 hi0 hy0 hy1 hy2 rfl (by decide) (.slice (some ⟨wn.heap.size, 0, none⟩) 3 3) 3 [.string ⟨#[116, 97, 98, 108, 101]⟩, .string C, .string ⟨#[58]⟩] (by rfl) HOm.out wm.heap.size Am l.length cm (l.map pairV) (by rfl) HRm.out hone h63 hby hzn ?_
       intro v5 w5 hown5 hg5 _
       have hb5 := below_own HBm.out HOm.out hg5 hzd hzm
       have g0 := (hb5.cell (p := ⟨w.heap.size, 2, none⟩) hlt0).trans d0
       have g1 := (hb5.cell (p := ⟨b, 0, none⟩) hltb).trans d1
       have g2 := (hb5.cell (p := ⟨b, 1, none⟩) hltb).trans d2))
 all_goals
  have HB5 := Lib.hid (HB1.out.trans (hb5.mono hz1))
  obtain ⟨A5, c5, hv5, _, hr5⟩ := Rd.of_own_cap hown5
  subst hv5
  have HR5 := Lib.hid hr5
  have hz5 := HB5.out.size
  clear hb5 hown5 hg5 g0 g1 g2 f0 f1 f2 e0 e1 e2 d0 d1 d2 hr5
  obtain ⟨I, hI⟩ : ∃ I, str (Lib.itoa root) = I := ⟨_, rfl⟩
  have HI := Lib.hid hI
  clear hI
  go_wp2_with fail
  refine (itoa_any root HRt.out.1 HRt.out.2 _ (HT.out.below HB5.out)).mono ?_
  rintro e w6 ⟨rfl, hb6⟩
  rw [HI.out]
  have HB6 := Lib.hid (HB5.out.trans (hb6.mono hz5))
  have hz6 := HB6.out.size
  have HR6 := Lib.hid ((HR5.out.below hb6).more hb6.size)
  have HOw6 : Hid ((w6.alloc (.cells #[.string I] 9)).ownsRow w6.heap.size 9 1 (.slice (some ⟨w6.heap.size, 0, none⟩) 1 1) 1 [.string I]) := own_new w6 _ _ (size := 1) (m := 1) rfl (by simp [maxLen]) (Nat.le_refl _)
  clear hb6
  go_wp2_with (at_builtin; refine wpList_app _ (by rfl) (.tmp 64) (.tmp 65) 67 (by rfl) w6.heap.size 9 i0 _ 1 16 Tryz.underlying67 hi0 hy0 hy1 hy2 rfl (by decide) (.slice (some ⟨w6.heap.size, 0, none⟩) 1 1) 1 [.string I] (by rfl) HOw6.out w6.heap.size A5 (3 + l.length) c5 ([.string ⟨#[116, 97, 98, 108, 101]⟩, .string C, .string ⟨#[58]⟩] ++ l.map pairV) (by rfl) (HR6.out.alloc (Nat.le_refl _) _) (by intro u hu; rcases List.mem_append.1 hu with h | h; (simp at h; rcases h with rfl | rfl | rfl <;> rfl); (obtain ⟨x, _, rfl⟩ := List.mem_map.1 h; rfl)) (by rw [HLl.out]; unfold maxLen; omega) (by rw [HLl.out]; omega) (by rw [World.size_alloc]; omega) ?_)
  intro v7 w7 hown7 hg7 _
  obtain ⟨A7, c7, hv7, hc7, hr7⟩ := Rd.of_own_cap hown7
  subst hv7
  have HB7 := Lib.hid (below_own (HB6.out.alloc hz6 _) HOw6.out hg7 hz6 (by rw [World.size_alloc]; omega))
  have hz7 := HB7.out.size
  have HR7 : Hid (RdS w7 w7.heap.size A7 (1 + (3 + l.length)) ([I, ⟨#[116, 97, 98, 108, 101]⟩, C, ⟨#[58]⟩] ++ l.map fun u => str (pairB u))) := by
   show Rd _ _ _ _ _ _
   have e : ([I, ⟨#[116, 97, 98, 108, 101]⟩, C, ⟨#[58]⟩] ++ l.map fun u => str (pairB u)).map Value.string = [.string I] ++ ([.string ⟨#[116, 97, 98, 108, 101]⟩, .string C, .string ⟨#[58]⟩] ++ l.map pairV) := by
    simp only [List.map_append, List.map_cons, List.map_nil, List.map_map]
    rfl
   rw [e]; exact hr7
  have HX : Hid (([I, ⟨#[116, 97, 98, 108, 101]⟩, C, ⟨#[58]⟩] ++ l.map fun u => str (pairB u)).map (·.data.toList) = Lib.itoa root :: #[116, 97, 98, 108, 101].toList :: dec cap :: [58] :: l.map pairB) := by
   show _ = _
   simp only [List.map_cons, List.map_map, ← HI.out, ← HC.out, str_list, List.cons_append, List.nil_append]
   congr 4
  have HLe : Hid ((Lib.join (Lib.itoa root :: #[116, 97, 98, 108, 101].toList :: dec cap :: [58] :: l.map pairB) [32]).length ≤ 1000000) := thing_lenp root cap _ l HRt.out.1 HRt.out.2 HCp.out.2 (by decide) (by rw [HLl.out]; exact h48) (fun x hx => pair_len x (HK.out x hx))
  clear hown7 hg7 hr7 HOw6
  go_wp2_with fail
  refine (line_any _ _ _ _ _ HR7.out (by omega) (by rw [HLl.out]; omega) hc7 (by rw [HX.out]; exact HLe.out)).mono ?_
  rintro e w8 ⟨rfl, hb8⟩
  rw [HX.out]
  have HB8 := Lib.hid (HB7.out.trans (hb8.mono hz7))
  clear hb8
  go_wp2
  go_ret
  exact ⟨rfl, HB8.out⟩
end Go.Proofs.YtiiaingepbkikaaGreatDoor
namespace Go.Proofs.YtiiaingepbkikaaGreatDoor
open Go.RowKit
set_option linter.unusedVariables false
theorem dec_small {m : Nat} (h : m < 10) : Lib.decDigits m = [UInt8.ofNat (48 + m)] := by rw [Lib.decDigits, dif_pos h]
theorem dec_big {m : Nat} (h : ¬ m < 10) : Lib.decDigits m = Lib.decDigits (m / 10) ++ [UInt8.ofNat (48 + m % 10)] := by rw [Lib.decDigits, dif_neg h]
theorem str_one (x : Int) (T : ByteArray) : (strOfNums [x] ++ T).data.toList = UInt8.ofNat x.toNat :: T.data.toList := by
 rw [ByteArray.data_append, Array.toList_append, strOfNums_data]; rfl
theorem toList_nil {T : ByteArray} : (T.toList == []) = decide (T.data.toList = []) := by
 rw [ByteArray.toList_eq, Bool.eq_iff_iff]; simp
set_option maxRecDepth 100000 in
set_option maxHeartbeats 4000000 in
theorem rdigits_any (u : Nat) (hu64 : u < 18446744073709551616) (w : World) :
 Calls Tryz.prog 72 #[.int .u64 u] w fun e w' => e = .returned (.string ⟨(Lib.decDigits u).toArray⟩) ∧ Below w.heap.size w w' := by
 have HN : Hid ((Lib.decDigits u).length ≤ 20) := by show _ ≤ _; rw [Lib.decDigits_length]; exact Lib.nDigits_le20 u hu64
 have HU := Lib.hid hu64
 clear hu64
 go_enter Tryz.func72, Tryz.ntmps72
 go_wp2
 go_loopw [0, 3] (fun x t wr => ∃ (m : Nat) (T : ByteArray), (x = .int .u64 m ∧ t = .string T ∧ m < 18446744073709551616 ∧ T.size ≤ 20) ∧ Hid ((T.data.toList = [] ∧ m = u) ∨ (T.data.toList ≠ [] ∧ 1 ≤ m ∧ Lib.decDigits m ++ T.data.toList = Lib.decDigits u)) ∧ Below w.heap.size w wr) (fun x _ _ => (intOf x).toNat + 0)
 case atStart => exact ⟨u, ⟨#[]⟩, ⟨rfl, rfl, HU.out, by decide⟩, .inl ⟨rfl, rfl⟩, Below.refl _ _⟩
 case round =>
  obtain ⟨m, T, ⟨rfl, rfl, hm64, hT20⟩, HI, hb⟩ := hrel
  have hsz := hb.size
  have HB := Lib.hid hb
  clear hb
  have hcv : ∀ x : Int, (convert 95 9 (.slice (some ⟨wr.heap.size, 0, none⟩) 1 1)).run Tryz.prog (wr.alloc (.cells #[.int .u8 x] 5)) = .ok (.string (strOfNums [x])) (wr.alloc (.cells #[.int .u8 x] 5)) := fun x =>
   conv_str (P := Tryz.prog) (c := 1) (l := [x]) 95 9 5 Tryz.underlying95 Tryz.underlying5 Tryz.underlying9 (Rd.new wr #[.int .u8 x] 5 rfl (by simp [maxLen]))
  have hsl : ∀ x : Int, (strOfNums [x]).size = 1 := fun x => strOfNums_size _
  by_cases h9 : 9 < m
  ·have h9' : (9 : Int) < (m : Int) := by omega
   have h0 : ((m : Int) / 10 == 0) = false := by rw [beq_eq_false_iff_ne]; omega
   have HM : Hid ((strOfNums [48 + (m : Int) % 10] ++ T).data.toList ≠ [] ∧ 1 ≤ m / 10 ∧ Lib.decDigits (m / 10) ++ (strOfNums [48 + (m : Int) % 10] ++ T).data.toList = Lib.decDigits u) := by
    rw [str_one, show (48 + (m : Int) % 10).toNat = 48 + m % 10 by omega]
    refine ⟨by simp, by omega, ?_⟩
    rcases HI.out with ⟨h, rfl⟩ | ⟨_, _, h⟩
    ·rw [h, ← dec_big (by omega)]
    ·rw [← h, dec_big (show ¬ m < 10 by omega)]; simp
   have HZ : Hid ((strOfNums [48 + (m : Int) % 10] ++ T).size ≤ 20) := by
    have h := congrArg List.length HM.out.2.2
    rw [List.length_append] at h
    have h20 := HN.out
    have e : (strOfNums [48 + (m : Int) % 10] ++ T).size = (strOfNums [48 + (m : Int) % 10] ++ T).data.toList.length := rfl
    show _ ≤ _
    omega
   go_wp2
   go_roundw
   case rel => exact ⟨m / 10, _, ⟨by simp, rfl, by omega, HZ.out⟩, .inr HM.out, HB.out.alloc hsz _⟩
   case measure => simp only [intOf]; omega
  ·have h9' : ¬ (9 : Int) < (m : Int) := by omega
   by_cases hT : T.data.toList = []
   ·have hTe : (T.toList == []) = true := by rw [toList_nil]; exact decide_eq_true hT
    have h0 : ((m : Int) / 10 == 0) = true := by rw [beq_iff_eq]; omega
    have HE : Hid (strOfNums [48 + (m : Int) % 10] ++ T = ⟨(Lib.decDigits u).toArray⟩) := by
     obtain rfl : m = u := by
      rcases HI.out with ⟨_, h⟩ | ⟨h, _⟩
      ·exact h
      ·exact absurd hT h
     apply ByteArray.ext
     apply Array.toList_inj.1
     rw [str_one, show (48 + (m : Int) % 10).toNat = 48 + m by omega, hT, dec_small (by omega)]
    go_wp2
    go_ret
    exact ⟨by rw [HE.out]; rfl, HB.out.alloc hsz _⟩
   ·have hTe : (T.toList == []) = false := by rw [toList_nil]; exact decide_eq_false hT
    have HE : Hid (strOfNums [48 + (m : Int)] ++ T = ⟨(Lib.decDigits u).toArray⟩) := by
     rcases HI.out with ⟨h, _⟩ | ⟨_, _, h⟩
     ·exact absurd h hT
     apply ByteArray.ext
     apply Array.toList_inj.1
     rw [str_one, show (48 + (m : Int)).toNat = 48 + m by omega, ← h, dec_small (by omega)]; rfl
    go_wp2
    go_ret
    exact ⟨by rw [HE.out]; rfl, HB.out.alloc hsz _⟩
end Go.Proofs.YtiiaingepbkikaaGreatDoor
namespace Go.Proofs.YtiiaingepbkikaaGreatDoor
open Go.RowKit
set_option linter.unusedVariables false
theorem rnum_any (u : Int) (h0 : 0 ≤ u) (h1 : u ≤ 18446744073709551615) (w : World) :
 Calls Tryz.prog 59 #[.int .u64 u] w fun e w' => e = .returned (.string (str (dec u))) ∧ Below w.heap.size w w' := by
 obtain ⟨n, rfl⟩ : ∃ n : Nat, u = (n : Int) := ⟨u.toNat, by omega⟩
 go_enter Tryz.func59, Tryz.ntmps59
 go_wp2_with (go_at_call 72; refine (rdigits_any n (by omega) _).mono ?_; rintro e w' ⟨rfl, hb⟩)
 go_ret
 exact ⟨rfl, hb⟩
theorem itoa_neg {n : Int} (h : n < 0) : Lib.itoa n = 45 :: Lib.decDigits n.natAbs := by rw [Lib.itoa, if_pos h]
theorem itoa_pos {n : Int} (h : ¬ n < 0) : Lib.itoa n = dec n := by rw [Lib.itoa, if_neg h]; rfl
set_option maxHeartbeats 1000000 in
theorem rint_any (n : Int) (h0 : -9223372036854775808 ≤ n) (h1 : n ≤ 9223372036854775807) (w : World) :
 Calls Tryz.prog 33 #[.int .i64 n] w fun e w' => e = .returned (.string (str (Lib.itoa n))) ∧ Below w.heap.size w w' := by
 by_cases hn : n < 0
 ·obtain ⟨k, rfl⟩ : ∃ k : Nat, n = -(k : Int) := ⟨n.natAbs, by omega⟩
  have HI : Hid (str (Lib.itoa (-(k : Int))) = ⟨#[45]⟩ ++ str (dec k)) := by
   show _ = _
   rw [itoa_neg hn, show (⟨#[45]⟩ : ByteArray) = str [45] from rfl, str_app, show (-(k : Int)).natAbs = k by omega]
   rfl
  obtain ⟨D, hD⟩ : ∃ D, str (dec k) = D := ⟨_, rfl⟩
  have hDs : D.size ≤ 20 := by rw [← hD, str_size]; exact dec_len k (by omega)
  have HD := Lib.hid hD
  clear hD
  go_enter Tryz.func33, Tryz.ntmps33
  go_wp2_with fail
  have hw : IntKind.u64.wrap (-IntKind.u64.wrap (-(k : Int))) = (k : Int) := by rw [IntKind.wrap_u64, IntKind.wrap_u64]; omega
  rw [hw]
  refine (rnum_any k (by omega) (by omega) _).mono ?_
  rintro e w' ⟨rfl, hb⟩
  rw [HD.out]
  have HB := Lib.hid hb
  clear hb
  go_wp2
  go_ret
  refine ⟨?_, HB.out⟩
  rw [HI.out, HD.out]; rfl
 ·have HI : Hid (Lib.itoa n = dec n) := itoa_pos hn
  have hn' : 0 ≤ n := by omega
  go_enter Tryz.func33, Tryz.ntmps33
  go_wp2_with fail
  refine (rnum_any n hn' (by omega) _).mono ?_
  rintro e w' ⟨rfl, hb⟩
  have HB := Lib.hid hb
  clear hb
  go_wp2
  go_ret
  exact ⟨by rw [HI.out]; rfl, HB.out⟩
set_option maxHeartbeats 2000000 in
theorem rword_any (e : Int) (h0 : -9223372036854775808 ≤ e) (h1 : e ≤ 9223372036854775807) (w : World) :
 Calls Tryz.prog 34 #[.int .i64 e] w fun x w' => x = .returned (.string (str (wordP e))) ∧ Below w.heap.size w w' := by
 by_cases c30 : e = 30
 ·subst c30
  go_enter Tryz.func34, Tryz.ntmps34
  go_wp2
  go_ret
  exact ⟨rfl, (Below.refl _ _).alloc (Nat.le_refl _) _⟩
 by_cases c40 : e = 40
 ·subst c40
  go_enter Tryz.func34, Tryz.ntmps34
  go_wp2
  go_ret
  exact ⟨rfl, (Below.refl _ _).alloc (Nat.le_refl _) _⟩
 by_cases c41 : e = 41
 ·subst c41
  go_enter Tryz.func34, Tryz.ntmps34
  go_wp2
  go_ret
  exact ⟨rfl, (Below.refl _ _).alloc (Nat.le_refl _) _⟩
 by_cases c42 : e = 42
 ·subst c42
  go_enter Tryz.func34, Tryz.ntmps34
  go_wp2
  go_ret
  exact ⟨rfl, (Below.refl _ _).alloc (Nat.le_refl _) _⟩
 by_cases c43 : e = 43
 ·subst c43
  go_enter Tryz.func34, Tryz.ntmps34
  go_wp2
  go_ret
  exact ⟨rfl, (Below.refl _ _).alloc (Nat.le_refl _) _⟩
 by_cases c44 : e = 44
 ·subst c44
  go_enter Tryz.func34, Tryz.ntmps34
  go_wp2
  go_ret
  exact ⟨rfl, (Below.refl _ _).alloc (Nat.le_refl _) _⟩
 by_cases c45 : e = 45
 ·subst c45
  go_enter Tryz.func34, Tryz.ntmps34
  go_wp2
  go_ret
  exact ⟨rfl, (Below.refl _ _).alloc (Nat.le_refl _) _⟩
 have HW : Hid (wordP e = [101, 114, 114, 111, 114, 32] ++ Lib.itoa e) := by
  show _ = _
  rw [wordP, if_neg c30, if_neg c40, if_neg c41, if_neg c42, if_neg c43, if_neg c44, if_neg c45]
 have g30 : (e == 30) = false := by simpa using c30
 obtain ⟨I, hI⟩ : ∃ I, str (Lib.itoa e) = I := ⟨_, rfl⟩
 have hIs : I.size ≤ 21 := by rw [← hI, str_size]; exact itoa_len e h0 h1
 have HI := Lib.hid hI
 have hr : ¬ 40 ≤ e ∨ (40 ≤ e ∧ ¬ e ≤ 45) := by omega
 clear hI c30 c40 c41 c42 c43 c44 c45
 rcases hr with ha | ⟨ha, hb⟩
 all_goals
  go_enter Tryz.func34, Tryz.ntmps34
  go_wp2_with fail
  refine (rint_any e h0 h1 _).mono ?_
  rintro x w' ⟨rfl, hb2⟩
  rw [HI.out]
  have HB := Lib.hid (((Below.refl w.heap.size w).alloc (Nat.le_refl _) _).trans (hb2.mono (by simp)))
  clear hb2
  go_wp2
  go_ret
  refine ⟨?_, HB.out⟩
  rw [HW.out, ← str_app, HI.out]; rfl
end Go.Proofs.YtiiaingepbkikaaGreatDoor
namespace Go.Proofs.YtiiaingepbkikaaGreatDoor
open Go.RowKit
set_option linter.unusedVariables false
def letters : ByteArray := ⟨#[97, 98, 99, 100, 101, 102, 103, 104]⟩
theorem cat_any {P : Program} {a b X : ByteArray} (h : a.size + b.size ≤ 100000) (hX : a ++ b = X) (w : World) : (Op.stringOp .add a b).run P w = .ok (.string X) w := by
 rw [← hX, run_string_add_sum w a b (by omega)]
theorem of_list {s : ByteArray} {l : Bys} (h : s.data.toList = l) : s = str l := by rw [← h, str_of]
theorem app_list (a b : ByteArray) : (a ++ b).data.toList = a.data.toList ++ b.data.toList := by rw [ByteArray.data_append, Array.toList_append]
end Go.Proofs.YtiiaingepbkikaaGreatDoor
