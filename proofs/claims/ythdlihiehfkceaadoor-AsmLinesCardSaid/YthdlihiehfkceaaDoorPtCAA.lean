/-
  Texts of one proof, joined (wip/gen/pack.py): TxtR, LawA6.
-/
import Derived.Test.YthdlihiehfkceaaDoorPtBAA
import Derived.Test.YthdlihiehfkceaaDoorPtBAB
namespace Go.Proofs.YthdlihiehfkceaaDoor
open Go.RowKit
set_option linter.unusedVariables false

/-- A program's text with labels where told, is read as the program. -/
theorem asm_textGo {code : List Ins} (hf : fitsP code = true) (hm : ∀ i ∈ code, 0 ≤ i.imm ∧ i.imm ≤ 18446744073709551615) (cnt : Int → Nat) (hc : ∀ i ∈ code, goesP i.op = true → 0 < cnt i.imm) :
    (asmP ⟨(textGo cnt code 0).toArray⟩).1 = code ∧ (asmP ⟨(textGo cnt code 0).toArray⟩).2.2 = 0 := by
  obtain ⟨h1, h2, _⟩ := fits_some hf
  have hs := seg_text cnt code 0 (by omega) h2 hm
  have hl := textGo_le cnt code 0 (by omega) hm
  obtain ⟨g1, g2⟩ := textLines_len cnt code 0
  have ht := toks_le 7 _ g2
  have ha := asm_seg hs (by omega) (by omega)
  rw [lines_toks _ (lines_no3 cnt code 0 (by omega) h2 hm), asm_lines hf (fun i hi => (hm i hi).1) cnt hc] at ha
  injection ha with e1 e2
  exact ⟨e1, e2⟩
def noCnt : Int → Nat := fun _ => 0
def lineB (i : Ins) : List UInt8 := printP (lineToks i) ++ [10]
theorem textGo_no : ∀ (l : List Ins) (k : Nat), textGo noCnt l k = l.flatMap lineB
  | [], k => rfl
  | i :: r, k => by rw [textGo, textGo_no r]; rfl
theorem text_one {i : Ins} (hp : plainB i.op i.a i.b i.c i.imm = true) (hg : goesP i.op = false) : textP [i] = ⟨(lineB i).toArray⟩ := by
  have hf : fitsP [i] = true := by
    unfold fitsP fitsGo fitsGo jumpOk Ins.plain
    simp [hp, hg]
  obtain ⟨_, _, cnt, _, h4, h5⟩ := fits_some hf
  rw [h4]
  have h0 : ∀ x, ¬ 0 < cnt x := fun x e => by
    obtain ⟨j, hj, h, _⟩ := (h5 x).1 e
    rw [List.mem_singleton.1 hj, hg] at h; cases h
  have e : textGo cnt [i] 0 = lineB i := by
    rw [textGo, textGo]
    unfold headP
    rw [if_neg (h0 _), if_neg (h0 _)]
    simp [lineB]
  rw [e]
theorem lineB_le {i : Ins} (h : 0 ≤ i.imm ∧ i.imm ≤ 18446744073709551615) : (lineB i).length ≤ 176 := by
  have := print_line_le i h
  unfold lineB
  rw [List.length_append]
  simp; omega
theorem linesB_le : ∀ (l : List Ins), (∀ i ∈ l, 0 ≤ i.imm ∧ i.imm ≤ 18446744073709551615) → (l.flatMap lineB).length ≤ 176 * l.length
  | [], _ => Nat.le_refl _
  | i :: r, h => by
    have := lineB_le (h i (by simp))
    have ih := linesB_le r (fun j hj => h j (by simp [hj]))
    rw [List.flatMap_cons, List.length_append, List.length_cons]; omega
theorem fits_stay {l : List Ins} (hl : l.length ≤ 256) (hp : ∀ i ∈ l, plainB i.op i.a i.b i.c i.imm = true) (hg : ∀ i ∈ l, goesP i.op = false) : fitsP l = true := by
  have hgo : ∀ (n : Nat) (l : List Ins) (k : Nat), (∀ i ∈ l, goesP i.op = false) → fitsGo n l k = true := by
    intro n l
    induction l with
    | nil => intro k _; rfl
    | cons i r ih =>
      intro k h
      rw [fitsGo, ih (k + 1) (fun j hj => h j (by simp [hj]))]
      unfold jumpOk
      rw [h i (by simp)]; rfl
  unfold fitsP
  simp only [Bool.and_eq_true, decide_eq_true_eq]
  exact ⟨⟨hl, List.all_eq_true.2 hp⟩, hgo _ _ _ hg⟩
/-- Lines of instructions that go nowhere are read as they stand. -/
theorem asm_stay {l : List Ins} (hl : l.length ≤ 256) (hp : ∀ i ∈ l, plainB i.op i.a i.b i.c i.imm = true) (hm : ∀ i ∈ l, 0 ≤ i.imm ∧ i.imm ≤ 18446744073709551615) (hg : ∀ i ∈ l, goesP i.op = false) :
    ∃ a, asmP ⟨(l.flatMap lineB).toArray⟩ = (l, a, 0) := by
  have h := asm_textGo (fits_stay hl hp hg) hm noCnt (fun i hi e => by rw [hg i hi] at e; cases e)
  rw [textGo_no] at h
  generalize asmP ⟨(l.flatMap lineB).toArray⟩ = R at h
  obtain ⟨x, y, z⟩ := R
  obtain ⟨h1, h2⟩ := h
  exact ⟨y, by rw [show x = l from h1, show z = 0 from h2]⟩
/-- A program, begun at one of its places, round to it. -/
def rotP (code : List Ins) (t : Nat) : List Ins := (List.range code.length).map fun k => (code[(k + t) % code.length]?).getD ⟨0, 0, 0, 0, 0⟩
theorem rot_len (code : List Ins) (t : Nat) : (rotP code t).length = code.length := by simp [rotP]
theorem rot_at {code : List Ins} {t k : Nat} {i : Ins} (hk : k < code.length) (h : code[(k + t) % code.length]? = some i) : (rotP code t)[k]? = some i := by
  unfold rotP
  rw [List.getElem?_map, List.getElem?_range hk]
  simp [h]
theorem rot_mem {code : List Ins} {t : Nat} {i : Ins} (h : i ∈ rotP code t) : i ∈ code := by
  unfold rotP at h
  obtain ⟨k, hk, rfl⟩ := List.mem_map.1 h
  have hk' := List.mem_range.1 hk
  have hlt : (k + t) % code.length < code.length := Nat.mod_lt _ (by omega)
  rw [List.getElem?_eq_getElem hlt]
  exact List.getElem_mem hlt
end Go.Proofs.YthdlihiehfkceaaDoor

namespace Go.Proofs.YthdlihiehfkceaaDoor
open Go.RowKit
set_option linter.unusedVariables false

theorem and255 (x : Int) : 0 ≤ bits .and .i64 x 255 ∧ bits .and .i64 x 255 ≤ 255 := by
  show 0 ≤ IntKind.i64.wrap ((BitVec.ofInt 64 x &&& BitVec.ofInt 64 255).toNat : Int) ∧ IntKind.i64.wrap ((BitVec.ofInt 64 x &&& BitVec.ofInt 64 255).toNat : Int) ≤ 255
  have h : (BitVec.ofInt 64 x &&& BitVec.ofInt 64 255).toNat ≤ 255 := by
    rw [BitVec.toNat_and]
    exact Nat.le_trans Nat.and_le_right (by decide)
  rw [IntKind.wrap_i64]
  omega
def SlVx (v : Value) (w : World) (B : Nat) (l : List Ins) : Prop := w.ownsRow B 35 5 v l.length (insCells l)

set_option maxRecDepth 100000 in
set_option maxHeartbeats 8000000 in
theorem lines_walk (l : List Ins) (A : Option Addr) (n c : Nat) (turn : Int) (W : World) (htab : PowTab W) (rd : RdI W W.heap.size A n l) (hok : ∀ t ∈ l, t.Ok) (hnc : n ≤ c) (htu : -9223372036854775808 ≤ turn ∧ turn ≤ 9223372036854775807) :
    Calls Tryd.prog 8 #[.slice A n c, .int .i64 turn] W fun e w' => e = .returned (.bool true) ∧ Below W.heap.size W w' := by
  have hlen := rd.insLen
  obtain ⟨i0, hi0, hz0, hz1, hz2⟩ := info_parts a_info_instr
  have HR := Lib.hid rd
  have HT := Lib.hid htab
  have HOk := Lib.hid hok
  have HLen := Lib.hid hlen
  clear rd htab hok hlen
  go_enter Tryd.func8, Tryd.ntmps8
  go_wp2_with fail
  refine (alive4_any _ HT.out).mono ?_
  rintro e w1 ⟨rfl, hb1⟩
  have HB1 := Lib.hid hb1
  have HR1 := Lib.hid ((HR.out.below hb1).more hb1.size)
  have HT1 := Lib.hid (HT.out.below hb1)
  clear hb1
  by_cases h40 : 40 < n
  · have g4 : (40 : Int) < (n : Int) := by omega
    clear h40
    go_wp2
    go_ret
    exact ⟨rfl, HB1.out⟩
  have g4 : ¬ (40 : Int) < (n : Int) := by omega
  by_cases h0 : n = 0
  · subst h0
    go_wp2
    go_ret
    exact ⟨rfl, HB1.out⟩
  have g5 : ¬ (n : Int) = 0 := by omega
  have g6 : ((n : Int) == 0) = false := beq_eq_false_iff_ne.2 g5
  have hall := all_any l A n c w1 HR1.out
  cases hpl : l.all Ins.plain
  · rw [hpl] at hall
    clear h40 h0
    go_wp2_with (go_at_call 18; refine hall.mono ?_; rintro e w2 ⟨rfl, hb2⟩; have HB2 := Lib.hid (HB1.out.trans (hb2.mono HB1.out.size)); clear hb2)
    go_ret
    exact ⟨rfl, HB2.out⟩
  rw [hpl] at hall
  have HPl := Lib.hid (List.all_eq_true.1 hpl)
  obtain ⟨t0, t1⟩ := and255 turn
  obtain ⟨tt, htt⟩ : ∃ tt, bits .and .i64 turn 255 = tt := ⟨_, rfl⟩
  rw [htt] at t0 t1
  obtain ⟨t, ht, htn⟩ : ∃ t : Nat, tt.tmod (n : Int) = (t : Int) ∧ t < n := by
    have h1 : 0 ≤ tt.tmod (n : Int) := Int.tmod_nonneg _ t0
    have h2 : tt.tmod (n : Int) < n := Int.tmod_lt_of_pos _ (by omega)
    exact ⟨(tt.tmod (n : Int)).toNat, by omega, by omega⟩
  have hn0 : 0 < n := by omega
  have hn40 : n ≤ 40 := by omega
  clear h40 h0 hpl
  go_upto_region 8 with (go_at_call 18; refine hall.mono ?_; rintro e w2 ⟨rfl, hb2⟩; have HB2 := Lib.hid (HB1.out.trans (hb2.mono HB1.out.size)); have HR2 := Lib.hid ((HR1.out.below hb2).more hb2.size); have HT2 := Lib.hid (HT1.out.below hb2); clear hb2)
  have OWN0 : Hid ((w2.alloc (.cells #[] 35)).ownsRow w2.heap.size 35 5 (.slice (some ⟨w2.heap.size, 0, none⟩) 0 0) 0 (insCells [])) := World.ownsRow_made w2 #[] 0 (Nat.le_refl _) (by simp [maxLen]) rfl
  have HB0 : Hid (Below W.heap.size W (w2.alloc (.cells #[] 35))) := HB2.out.alloc HB2.out.size _
  obtain ⟨R, hR⟩ : ∃ R, rotP l t = R := ⟨_, rfl⟩
  have HRl : Hid (R.length = n) := by show _ = _; rw [← hR, rot_len]; exact HLen.out
  have HRat : Hid (∀ k i, k < n → l[(k + t) % n]? = some i → R[k]? = some i) := by
    intro k i hk h
    rw [← hR]
    exact rot_at (by rw [HLen.out]; exact hk) (by rw [HLen.out]; exact h)
  have HWw : Hid (W.heap.size ≤ w2.heap.size) := HB2.out.size
  have HRm : Hid (∀ i ∈ R, i ∈ l) := by intro i hi; rw [← hR] at hi; exact rot_mem hi
  clear hR hall ht htt
  go_wp2
  go_loopw [5, 6, 35] (fun sv ov i wr => ∃ k : Nat, (k ≤ n ∧ i = .int .i64 k ∧ sv = .string ⟨((R.take k).flatMap lineB).toArray⟩) ∧ Hid (wr.ownsRow w2.heap.size 35 5 ov k (insCells (R.take k))) ∧ Hid (∀ i ∈ R.take k, goesP i.op = false) ∧ Hid (Below W.heap.size W wr) ∧ Hid (w2.heap.size ≤ wr.heap.size)) (fun _ _ i _ => n - (intOf i).toNat)
  case atStart => exact ⟨0, ⟨by omega, rfl, rfl⟩, OWN0.out, (fun i hi => by cases hi), HB0.out, (show w2.heap.size ≤ _ by simp)⟩
  case round =>
    obtain ⟨k, ⟨hk, rfl, rfl⟩, HO, HG, HB, HOw⟩ := hrel
    obtain ⟨ov', co, rfl, hkc, _⟩ := Rd.of_own_cap HO.out
    by_cases hlt : k < n
    · have hlti : (k : Int) < (n : Int) := by omega
      obtain ⟨r, hr⟩ : ∃ r, (k + t) % n = r := ⟨_, rfl⟩
      have hrn : r < n := by rw [← hr]; exact Nat.mod_lt _ hn0
      have hmod : ((k : Int) + (t : Int)).tmod (n : Int) = (r : Int) := by
        rw [← hr, show (k : Int) + (t : Int) = ((k + t : Nat) : Int) by omega, Int.ofNat_tmod]
      obtain ⟨b, o, ⟨oo, oa, ob, oc, om⟩, rfl, hbB, hik, c0, c1, c2, c3, c4⟩ := (HR.out.below HB.out).insAt hrn
      have hRk := HRat.out k _ hlt (by rw [hr]; exact hik)
      have hom := (HOk.out _ (List.mem_of_getElem? hik)).imm
      have hpi := HPl.out _ (List.mem_of_getElem? hik)
      have HPi : Hid (plainB oo oa ob oc om = true) := hpi
      have HTk : Hid (R.take (k + 1) = R.take k ++ [⟨oo, oa, ob, oc, om⟩]) := by show _ = _; rw [List.take_add_one, hRk]; rfl
      have HKI : Hid (Ins.Ok ⟨oo, oa, ob, oc, om⟩) := HOk.out _ (List.mem_of_getElem? hik)
      simp only at hom
      clear hik hRk hpi hr
      have hmod' := Lib.hid hmod
      obtain ⟨gs, hgs⟩ : ∃ gs, goesP oo = gs := ⟨_, rfl⟩
      have HGs := Lib.hid hgs
      have hgo := fun W => rgoes_is oo W hgs
      clear hgs
      have hacl := linesB_le (R.take k) (fun i hi => (HOk.out i (HRm.out i (List.mem_of_mem_take hi))).imm)
      have hTl : (R.take k).length ≤ 40 := by rw [List.length_take]; omega
      obtain ⟨acc, hacc⟩ : ∃ acc, (R.take k).flatMap lineB = acc := ⟨_, rfl⟩
      rw [hacc] at hacl
      have hacl2 : acc.length ≤ 60000 := by omega
      have HAcc := Lib.hid hacc
      rw [hacc]
      clear hacc hacl hTl
      go_upto_region 12 with fail
      obtain ⟨W1, hW1⟩ : ∃ W1, wr.alloc (.cells #[.int .i64 oo, .int .i64 oa, .int .i64 ob, .int .i64 oc, .int .u64 om] 35) = W1 := ⟨_, rfl⟩
      rw [hW1]
      have HI1 : Hid (Bk W1 wr.heap.size 35 #[.int .i64 oo, .int .i64 oa, .int .i64 ob, .int .i64 oc, .int .u64 om]) := by show Bk _ _ _ _; rw [← hW1]; exact Bk.new _ _ _
      have hg1 : wr.grownBy W1 none := by rw [← hW1]; exact World.grownBy_alloc _ _ _
      have HO1 := Lib.hid (HO.out.kept hg1 (own_not _))
      have HB1' := Lib.hid (HB.out.grown hg1 HB.out.size (fun r e => by cases e))
      clear hW1 hg1 c0 c1 c2 c3 c4
      have j0 : W1.cell? ⟨wr.heap.size, 0, none⟩ = some (.int .i64 oo) := HI1.out.cell 0
      have j1 : W1.cell? ⟨wr.heap.size, 1, none⟩ = some (.int .i64 oa) := HI1.out.cell 1
      have j2 : W1.cell? ⟨wr.heap.size, 2, none⟩ = some (.int .i64 ob) := HI1.out.cell 2
      have j3 : W1.cell? ⟨wr.heap.size, 3, none⟩ = some (.int .i64 oc) := HI1.out.cell 3
      have j4 : W1.cell? ⟨wr.heap.size, 4, none⟩ = some (.int .u64 om) := HI1.out.cell 4
      cases gs
      · have hone := text_one (i := ⟨oo, oa, ob, oc, om⟩) HPi.out HGs.out
        obtain ⟨PL, hPL⟩ : ∃ PL, lineB ⟨oo, oa, ob, oc, om⟩ = PL := ⟨_, rfl⟩
        have hPl : PL.length ≤ 176 := by rw [← hPL]; exact lineB_le hom
        rw [hPL] at hone
        have HPL := Lib.hid hPL
        have R1 : Hid (Rd (W1.alloc (.cells #[.int .i64 oo, .int .i64 oa, .int .i64 ob, .int .i64 oc, .int .u64 om] 35)) (W1.heap.size + 1) 5 (some ⟨W1.heap.size, 0, none⟩) 1 (insCells [⟨oo, oa, ob, oc, om⟩])) := Rd.new W1 _ _ (size := 5) (m := 1) rfl (by simp [maxLen])
        have hta := text_any [⟨oo, oa, ob, oc, om⟩] (some ⟨W1.heap.size, 0, none⟩) 1
        rw [hone] at hta
        have HTa := Lib.hid hta
        have HBa := Lib.hid (HB1'.out.alloc HB1'.out.size (.cells #[.int .i64 oo, .int .i64 oa, .int .i64 ob, .int .i64 oc, .int .u64 om] 35))
        have HOa := Lib.hid (HO1.out.alloc (.cells #[.int .i64 oo, .int .i64 oa, .int .i64 ob, .int .i64 oc, .int .u64 om] 35))
        have HSz : Hid (wr.heap.size < W1.heap.size) := HI1.out.lt
        have HSw : Hid (W1.heap.size + 1 ≤ (W1.alloc (.cells #[.int .i64 oo, .int .i64 oa, .int .i64 ob, .int .i64 oc, .int .u64 om] 35)).heap.size) := by show _ ≤ _; simp
        clear hone hPL hta
        go_upto_region 15 with (first
          | (go_at_call 19; refine (hgo _).mono ?_; rintro e w9 ⟨rfl, he9⟩; obtain rfl : W1 = w9 := he9.symm)
          | (go_at_call 11
             refine (HTa.out _ _ (R1.out.more HSw.out) (by decide) (by intro i hi; rw [List.mem_singleton.1 hi]; exact HKI.out) (HT.out.below HBa.out)).mono ?_
             rintro e w3 ⟨rfl, hb3⟩
             have HB3 := Lib.hid (HBa.out.trans (hb3.mono HBa.out.size))
             have HI3 := Lib.hid ((HI1.out.alloc (.cells #[.int .i64 oo, .int .i64 oa, .int .i64 ob, .int .i64 oc, .int .u64 om] 35)).below hb3 (by have := HSz.out; simp; omega))
             have HO3 := Lib.hid (own_below HOa.out hb3)
             clear hb3))
        clear j0 j1 j2 j3 j4
        have k0 : w3.cell? ⟨wr.heap.size, 0, none⟩ = some (.int .i64 oo) := HI3.out.cell 0
        have k1 : w3.cell? ⟨wr.heap.size, 1, none⟩ = some (.int .i64 oa) := HI3.out.cell 1
        have k2 : w3.cell? ⟨wr.heap.size, 2, none⟩ = some (.int .i64 ob) := HI3.out.cell 2
        have k3 : w3.cell? ⟨wr.heap.size, 3, none⟩ = some (.int .i64 oc) := HI3.out.cell 3
        have k4 : w3.cell? ⟨wr.heap.size, 4, none⟩ = some (.int .u64 om) := HI3.out.cell 4
        have HOb := Lib.hid (HO3.out.alloc (.cells #[.int .i64 oo, .int .i64 oa, .int .i64 ob, .int .i64 oc, .int .u64 om] 35))
        have HBb := Lib.hid (HB3.out.alloc HB3.out.size (.cells #[.int .i64 oo, .int .i64 oa, .int .i64 ob, .int .i64 oc, .int .u64 om] 35))
        have hz3 := HBb.out.size
        have Rb : Hid (Rd (w3.alloc (.cells #[.int .i64 oo, .int .i64 oa, .int .i64 ob, .int .i64 oc, .int .u64 om] 35)) (w3.heap.size + 1) 5 (some ⟨w3.heap.size, 0, none⟩) 1 (insCells [⟨oo, oa, ob, oc, om⟩])) := Rd.new w3 _ _ (size := 5) (m := 1) rfl (by simp [maxLen])
        have hzw : w2.heap.size ≤ (w3.alloc (.cells #[.int .i64 oo, .int .i64 oa, .int .i64 ob, .int .i64 oc, .int .u64 om] 35)).heap.size := by
          have h1 := HOw.out
          have h2 := (HI3.out.lt)
          simp; omega
        go_wp2_with (
          at_builtin
          go_must (
            refine wpList_app _ rfl (.tmp 55) (.tmp 57) 22 rfl w2.heap.size 35 i0 _ 5 40 Tryd.underlying22 hi0 hz0 hz1 hz2 rfl (by omega) _ k _ rfl HOb.out _ _ 1 _ _ rfl Rb.out (insCells_one _) ?_ ?_ ?_ ?_
            · simp only [maxLen]; omega
            · omega
            · exact hzw
            intro v5 w5 hown5 hg5 _
            have HO5 := Lib.hid hown5
            have HB5 := Lib.hid (below_own HBb.out HOb.out hg5 HWw.out hz3)
            have HZ5 := Lib.hid hg5.size
            clear hown5 hg5))
        go_roundw
        case rel =>
          refine ⟨k + 1, ⟨by omega, by go_num, ?_⟩, ?_, ?_, HB5.out, ?_⟩
          · rw [HTk.out, List.flatMap_append, HAcc.out]
            refine congrArg Value.string (ByteArray.ext (Array.toList_inj.1 ?_))
            simp [ByteArray.data_append, HPL.out]
          · rw [HTk.out, insCells_append]
            exact HO5.out
          · rw [HTk.out]
            intro i hi
            rcases List.mem_append.1 hi with hi | hi
            · exact HG.out i hi
            · rw [List.mem_singleton.1 hi]; exact HGs.out
          · show w2.heap.size ≤ w5.heap.size
            exact Nat.le_trans hzw HZ5.out
        case measure => simp [intOf]; omega
      · go_wp2_with (go_at_call 19; refine (hgo _).mono ?_; rintro e w9 ⟨rfl, he9⟩; obtain rfl : W1 = w9 := he9.symm)
        go_ret
        exact ⟨rfl, HB1'.out⟩
    · obtain rfl : k = n := by omega
      have hT : R.take k = R := List.take_of_length_le (by rw [HRl.out]; exact Nat.le_refl _)
      have hG := HG.out
      have hO := HO.out
      rw [hT] at hG hO ⊢
      obtain ⟨a, hA⟩ := asm_stay (by rw [HRl.out]; omega) (fun i hi => HPl.out i (HRm.out i hi)) (fun i hi => (HOk.out i (HRm.out i hi)).imm) hG
      have hle := linesB_le R (fun i hi => (HOk.out i (HRm.out i hi)).imm)
      have hRl : R.length ≤ 40 := by rw [HRl.out]; exact hn40
      obtain ⟨S, hS⟩ : ∃ S : ByteArray, ⟨(R.flatMap lineB).toArray⟩ = S := ⟨_, rfl⟩
      have hSl : S.size ≤ maxLen := by rw [← hS]; show (R.flatMap lineB).toArray.size ≤ _; rw [List.size_toArray]; unfold maxLen; omega
      rw [hS] at hA ⊢
      obtain ⟨ov2, co2, hov, _, hRd⟩ := Rd.of_own_cap hO
      injection hov with e1 e2 e3
      subst e1 e3
      have HA := Lib.hid hA
      have HRd := Lib.hid hRd
      have HRl' := HRl
      clear hT hG hO hA hle hRl hS hRd
      go_wp2_with (first
        | (go_at_call 14
           refine (asm_to HA.out wr hSl).mono ?_
           rintro e u1 ⟨A1, c1, rfl, hc1, hr1, _, hb1⟩
           have HR1' := Lib.hid hr1
           have HB1' := Lib.hid (HB.out.trans (hb1.mono HB.out.size))
           have HW1 := Lib.hid ((HRd.out.below hb1).more hb1.size)
           clear hb1 hr1 hc1)
        | (go_at_call 15
           refine (same_is R A1 ov' R.length c1 k co u1 HR1'.out HW1.out).mono ?_
           rintro e u2 ⟨rfl, hb2⟩
           have HB2' := Lib.hid (HB1'.out.trans (hb2.mono HB1'.out.size))
           clear hb2))
      go_ret
      exact ⟨rfl, HB2'.out⟩
end Go.Proofs.YthdlihiehfkceaaDoor
