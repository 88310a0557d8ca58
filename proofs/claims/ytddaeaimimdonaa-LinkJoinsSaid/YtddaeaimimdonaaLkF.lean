/-
  Chapter 19: contract of link.Join. Printed by gen/lkf.py.
-/
import Derived.Test.YtddaeaimimdonaaLkE
namespace Go.Proofs.Ytddaeaimimdonaa
open Go.RowKit
set_option linter.unusedVariables false

/-- A slice of parts that is read. -/
structure RdP (w : World) (B : Nat) (A : Option Addr) (n : Nat) (l : List Prt) : Prop where
  rd : Rd w B 9 A n (l.flatMap Prt.cells)
  len : l.length = n
  all : ∀ j ∈ l, j.In w B
theorem RdP.below {w w' : World} {B n : Nat} {A : Option Addr} {l : List Prt} (h : RdP w B A n l) (hb : Below B w w') : RdP w' B A n l :=
  ⟨h.rd.below hb, h.len, fun j hj => (h.all j hj).below hb⟩
theorem RdP.more {w : World} {B B' n : Nat} {A : Option Addr} {l : List Prt} (h : RdP w B A n l) (hB : B ≤ B') : RdP w B' A n l :=
  ⟨h.rd.more hB, h.len, fun j hj => (h.all j hj).more hB⟩
theorem RdP.at_ {w : World} {B n : Nat} {A : Option Addr} {l : List Prt} (h : RdP w B A n l) {k : Nat} (hk : k < n) :
    ∃ b o pA pn pc code b0 b1 b2 b3, A = some ⟨b, o, none⟩ ∧ b < B ∧ l[k]? = some ⟨pA, pn, pc, code, [b0, b1, b2, b3]⟩ ∧ Prt.In w B ⟨pA, pn, pc, code, [b0, b1, b2, b3]⟩ ∧ w.cell? ⟨b, o + k * 9, none⟩ = some (.slice pA pn pc) ∧
      w.cell? ⟨b, o + k * 9 + 1, none⟩ = some (.int .i64 b0.kind) ∧ w.cell? ⟨b, o + k * 9 + 2, none⟩ = some (.int .u64 b0.val) ∧ w.cell? ⟨b, o + k * 9 + 3, none⟩ = some (.int .i64 b1.kind) ∧ w.cell? ⟨b, o + k * 9 + 4, none⟩ = some (.int .u64 b1.val) ∧ w.cell? ⟨b, o + k * 9 + 5, none⟩ = some (.int .i64 b2.kind) ∧ w.cell? ⟨b, o + k * 9 + 6, none⟩ = some (.int .u64 b2.val) ∧ w.cell? ⟨b, o + k * 9 + 7, none⟩ = some (.int .i64 b3.kind) ∧ w.cell? ⟨b, o + k * 9 + 8, none⟩ = some (.int .u64 b3.val) := by
  obtain ⟨b, o, e, hb, hc⟩ := h.rd.at_ (by omega)
  have hkl : k < l.length := by rw [h.len]; exact hk
  have hin := h.all _ (List.getElem_mem hkl)
  obtain ⟨b0, b1, b2, b3, ha⟩ := hin.four
  have hcell : ∀ i, i < 9 → (l.flatMap Prt.cells)[k * 9 + i]? = (Prt.cells (l[k]'hkl))[i]? := fun i hi => flat_nth Prt.cells (fun y hy => (h.all y hy).cells_len) hkl hi
  have hl := List.getElem?_eq_getElem hkl
  obtain ⟨P, hP⟩ : ∃ P, l[k]'hkl = P := ⟨_, rfl⟩
  rw [hP] at hin ha hcell hl
  obtain ⟨pA, pn, pc, code, args⟩ := P
  obtain rfl : args = [b0, b1, b2, b3] := ha
  refine ⟨b, o, pA, pn, pc, code, b0, b1, b2, b3, e, hb, hl, hin, ?_, ?_, ?_, ?_, ?_, ?_, ?_, ?_, ?_⟩
  · exact hc (k * 9) _ (by rw [← Nat.add_zero (k * 9), hcell 0 (by omega)]; rfl)
  all_goals
    rw [Nat.add_assoc]
    refine hc _ _ ?_
    rw [hcell _ (by omega)]
    rfl
theorem faults_cons {l : List Prt} {k : Nat} {q : Prt} (h : l[k]? = some q) : faultsL (l.drop k) k = if faultL q.code q.args k ≠ 0 then faultL q.code q.args k else faultsL (l.drop (k + 1)) (k + 1) := by
  have hk : k < l.length := (List.getElem?_eq_some_iff.1 h).1
  rw [List.drop_eq_getElem_cons hk, (List.getElem?_eq_some_iff.1 h).2]; rfl
theorem faults_all : ∀ (l : List Prt) (k : Nat), faultsL l k = 0 → ∀ j q, l[j]? = some q → faultL q.code q.args (k + j) = 0
  | [], k, _, j, q, h => by simp at h
  | y :: l, k, h0, j, q, h => by
    unfold faultsL at h0
    split at h0
    · rename_i h1; exact absurd h0 h1
    rename_i h1
    have h1 : faultL y.code y.args k = 0 := by simpa using h1
    rcases j with _ | j
    · simp at h; subst h; simpa using h1
    · have := faults_all l (k + 1) h0 j q (by simpa using h)
      rw [show k + (j + 1) = k + 1 + j by omega]; exact this
theorem allL_len {l : List Prt} (h : ∀ (k : Nat) (q : Prt), l[k]? = some q → q.code.length ≤ 256) : ∀ k, k ≤ l.length → (allL l k).length ≤ 528 * k
  | 0, _ => by simp [allL]
  | k + 1, hk => by
    have h1 := allL_len h k (by omega)
    have hq : l[k]? = some (l[k]'(by omega)) := List.getElem?_eq_getElem (by omega)
    have h2 := h k _ hq
    have h3 := addL_len (allL l k) k (l.getD k ⟨none, 0, 0, [], []⟩).code (l.getD k ⟨none, 0, 0, [], []⟩).args
    rw [List.getD_eq_getElem?_getD, hq] at h3
    simp only [Option.getD_some] at h3
    rw [allL, List.getD_eq_getElem?_getD, hq]
    simp only [Option.getD_some]
    omega
theorem allL_snoc {l : List Prt} {k : Nat} {q : Prt} (h : l[k]? = some q) : allL l (k + 1) = addL (allL l k) k q.code q.args := by
  rw [allL, List.getD_eq_getElem?_getD, h]; rfl
def LkAny (w : World) (g : Nat) (out : List Ins) : Prop := ∃ ov A n c a0 a1 a2 a3 kk tv tos, LkV w g ov out A n c a0 a1 a2 a3 kk tv tos
def JoinPost (l : List Prt) (w : World) (e : Ending) (w' : World) : Prop :=
  ∃ v, e = .returned (.tuple #[v, .int .i64 (joinL l).2]) ∧ w'.ownsRow w.heap.size 43 5 v (joinL l).1.length (insCells (joinL l).1) ∧ Below w.heap.size w w'
theorem JoinPost.fail {l : List Prt} {w w' : World} {x : Int} (h : joinL l = ([], x)) (hb : Below w.heap.size w w') : JoinPost l w (.returned (.tuple #[.slice none 0 0, .int .i64 x])) w' := by
  refine ⟨_, by rw [h], ?_, hb⟩
  rw [h]
  exact own_nothing _ _ _ _
set_option maxRecDepth 100000 in
set_option maxHeartbeats 16000000 in
theorem join_any (l : List Prt) (A : Option Addr) (n c : Nat) (w : World) (hl : RdP w w.heap.size A n l) :
    Calls Try.prog 31 #[.slice A n c] w (JoinPost l w) := by
  obtain ⟨i0, hi0, hz0, hz1, hz2⟩ := info_parts info_insL
  have HL := Lib.hid hl
  have HLen := Lib.hid hl.len
  clear hl
  go_enter Try.func31, Try.ntmps31
  by_cases hn0 : n = 0
  · subst hn0
    have HE : Hid (joinL l = ([], 4)) := by show _ = _; unfold joinL; rw [if_pos HLen.out]
    go_wp2
    go_ret2
    exact JoinPost.fail HE.out (Below.refl _ _)
  have hn0i : ((n : Int) == 0) = false := by simpa using hn0
  by_cases hn4 : 4 < n
  · have HE : Hid (joinL l = ([], 3)) := by show _ = _; unfold joinL; rw [HLen.out, if_neg hn0, if_pos hn4]
    have hn4i : (4 : Int) < (n : Int) := by omega
    go_wp2
    go_ret2
    exact JoinPost.fail HE.out (Below.refl _ _)
  have hn4i : ¬ ((4 : Int) < (n : Int)) := by omega
  go_wp2
  go_loopw [20, 4, 5, 6] (fun i _a _b _c wr => ∃ k : Nat, (k ≤ n ∧ i = .int .i64 k) ∧ Hid (faultsL l 0 = faultsL (l.drop k) k) ∧ Hid (Below w.heap.size w wr)) (fun i _ _ _ _ => n - (intOf i).toNat)
  case atStart => exact ⟨0, ⟨by omega, rfl⟩, (by show _ = _; rfl), Below.refl _ _⟩
  case round =>
    obtain ⟨k, ⟨hk, rfl⟩, HF, HB⟩ := hrel
    by_cases hlt : k < n
    · obtain ⟨b, o, pA, pn, pc, code, b0, b1, b2, b3, rfl, hbB, hlk, hin, c0, c1, c2, c3, c4, c5, c6, c7, c8⟩ := (HL.out.below HB.out).at_ hlt
      have HC := Lib.hid (faults_cons hlk)
      have HIn := Lib.hid hin
      clear hlk hin
      go_wp2_with fail
      obtain ⟨W3, hW3⟩ : ∃ W3, wr.alloc (.cells #[.slice pA pn pc, .int .i64 b0.kind, .int .u64 b0.val, .int .i64 b1.kind, .int .u64 b1.val, .int .i64 b2.kind, .int .u64 b2.val, .int .i64 b3.kind, .int .u64 b3.val] 80) = W3 := ⟨_, rfl⟩
      have hb3 : Below wr.heap.size wr W3 := by rw [← hW3]; exact (Below.refl _ _).alloc (Nat.le_refl _) _
      rw [hW3]
      have HB3 := Lib.hid (HB.out.trans (hb3.mono HB.out.size))
      refine (lfault_any code pA pn pc b0.kind b1.kind b2.kind b3.kind b0.val b1.val b2.val b3.val k _ ((HIn.out.code.below (hb3.mono HB.out.size)).more HB3.out.size) HIn.out.ok (by omega)).mono ?_
      rintro e W4 ⟨rfl, hb4⟩
      have HB4 := Lib.hid (HB3.out.trans (hb4.mono HB3.out.size))
      obtain ⟨z, hz⟩ : ∃ z, faultL code [⟨b0.kind, b0.val⟩, ⟨b1.kind, b1.val⟩, ⟨b2.kind, b2.val⟩, ⟨b3.kind, b3.val⟩] k = z := ⟨_, rfl⟩
      have HZ : Hid (faultL code [b0, b1, b2, b3] k = z) := hz
      rw [hz]
      clear hz hW3 hb3 hb4 c0 c1 c2 c3 c4 c5 c6 c7 c8
      by_cases hz0 : z = 0
      · subst hz0
        have HF2 : Hid (faultsL l 0 = faultsL (l.drop (k + 1)) (k + 1)) := by
          show _ = _
          rw [HF.out, HC.out]
          rw [HZ.out, if_neg (by decide)]
        go_wp2
        go_roundw
        case rel => exact ⟨k + 1, ⟨by omega, by go_num⟩, HF2, HB4⟩
        case measure => simp [intOf]; omega
      · have hzb : (z != 0) = true := by simpa using hz0
        have HE : Hid (joinL l = ([], z)) := by
          show _ = _
          have hf : faultsL l 0 = z := by
            rw [HF.out, HC.out]
            rw [HZ.out, if_pos hz0]
          unfold joinL
          rw [HLen.out, if_neg hn0, if_neg hn4, if_pos (by rw [hf]; exact hz0), hf]
        go_wp2
        go_ret2
        exact JoinPost.fail HE.out HB4.out
    · obtain rfl : n = k := by omega
      have HF0 : Hid (faultsL l 0 = 0) := by show _ = _; rw [HF.out, List.drop_eq_nil_of_le (by rw [HLen.out]; exact Nat.le_refl _)]; rfl
      have HP : Hid (∀ (j : Nat) (q : Prt), l[j]? = some q → PartOk q.code q.args j) := fun j q hq => part_ok (by have := faults_all l 0 HF0.out j q hq; simpa using this)
      have HAl := Lib.hid (allL_len (l := l) fun k q hq => (HP.out k q hq).len.2)
      go_upto_region 13 with fail
      obtain ⟨X, hX⟩ : ∃ X, wr.alloc (.cells #[.slice none 0 0, .slice none 0 0, .int .i64 0, .int .u64 0, .int .i64 0, .int .u64 0, .int .i64 0, .int .u64 0, .int .i64 0, .int .u64 0, .int .i64 0, .slice none 0 0] 106) = X := ⟨_, rfl⟩
      rw [hX]
      have hk0 : Bk X wr.heap.size 106 #[.slice none 0 0, .slice none 0 0, .int .i64 0, .int .u64 0, .int .i64 0, .int .u64 0, .int .i64 0, .int .u64 0, .int .i64 0, .int .u64 0, .int .i64 0, .slice none 0 0] := by rw [← hX]; exact Bk.new _ _ _
      have HBX : Hid (Below w.heap.size w X) := by show Below _ _ _; rw [← hX]; exact HB.out.alloc HB.out.size _
      have HGw : Hid (w.heap.size ≤ wr.heap.size) := HB.out.size
      obtain ⟨g, hgg⟩ : ∃ g, wr.heap.size = g := ⟨_, rfl⟩
      rw [hgg] at hk0 HGw ⊢
      have HLX : Hid (LkAny X g (allL l 0)) := ⟨.slice none 0 0, none, 0, 0, ⟨0, 0⟩, ⟨0, 0⟩, ⟨0, 0⟩, ⟨0, 0⟩, 0, .slice none 0 0, [], hk0, own_nothing _ _ _ _, own_nothing _ _ _ _⟩
      clear hX hk0 hgg
      go_wp2
      go_loopw [36, 8, 9] (fun i _a _b wq => ∃ k : Nat, (k ≤ n ∧ i = .int .i64 k) ∧ Hid (LkAny wq g (allL l k)) ∧ Hid (Below w.heap.size w wq)) (fun i _ _ _ => n - (intOf i).toNat)
      case atStart => exact ⟨0, ⟨by omega, rfl⟩, HLX, HBX⟩
      case round =>
        obtain ⟨k, ⟨hk, rfl⟩, HLk, HBk⟩ := hrel
        obtain ⟨ov, A', n', c', a0, a1, a2, a3, kk, tv, tos, hlv⟩ := HLk.out
        have HLv := Lib.hid hlv
        have hgl := hlv.lt
        clear hlv
        by_cases hlt : k < n
        · obtain ⟨b, o, pA, pn, pc, code, b0, b1, b2, b3, rfl, hbB, hlk, hin, c0, c1, c2, c3, c4, c5, c6, c7, c8⟩ := (HL.out.below HBk.out).at_ hlt
          have HSn := Lib.hid (allL_snoc hlk)
          have HPk := Lib.hid (HP.out _ _ hlk)
          have HIn := Lib.hid hin
          have HAk := Lib.hid (HAl.out k (by rw [HLen.out]; omega))
          clear hlk hin
          go_wp2_with fail
          obtain ⟨W3, hW3⟩ : ∃ W3, wr.alloc (.cells #[.slice pA pn pc, .int .i64 b0.kind, .int .u64 b0.val, .int .i64 b1.kind, .int .u64 b1.val, .int .i64 b2.kind, .int .u64 b2.val, .int .i64 b3.kind, .int .u64 b3.val] 80) = W3 := ⟨_, rfl⟩
          have hb3 : Below wr.heap.size wr W3 := by rw [← hW3]; exact (Below.refl _ _).alloc (Nat.le_refl _) _
          rw [hW3]
          have HB3 := Lib.hid (HBk.out.trans (hb3.mono HBk.out.size))
          refine (add_any g A' n' c' (allL l k) a0 a1 a2 a3 kk ov tv tos k pA pn pc code b0 b1 b2 b3 _ (own_lk HLv.out hb3) ((HIn.out.code.below (hb3.mono HBk.out.size)).more HGw.out) HPk.out HIn.out.ok HIn.out.argsOk (by omega) (by have := HAk.out; omega)).mono ?_
          rintro e W4 ⟨rfl, ⟨ov', tv', tos', hl4⟩, hb4⟩
          have HL4 : Hid (LkAny W4 g (allL l (k + 1))) := ⟨ov', pA, pn, pc, b0, b1, b2, b3, k, tv', tos', by rw [HSn.out]; exact hl4⟩
          have HB4 := Lib.hid (HB3.out.trans (hb4.mono HGw.out))
          clear hW3 hb3 hl4 hb4 c0 c1 c2 c3 c4 c5 c6 c7 c8
          go_wp2
          go_roundw
          case rel => exact ⟨k + 1, ⟨by omega, by go_num⟩, HL4, HB4⟩
          case measure => simp [intOf]; omega
        · obtain rfl : n = k := by omega
          obtain ⟨OL, hOL⟩ : ∃ OL, allL l n = OL := ⟨_, rfl⟩
          have hal := HAl.out n (by rw [HLen.out]; exact Nat.le_refl _)
          rw [hOL] at HLv hal
          have HOl : Hid (OL.length ≤ 10000) := by show _ ≤ _; omega
          have HW : Hid (wholeL l = OL ++ [⟨20, 12 + (n : Int) - 1, 0, 0, 0⟩]) := by
            show _ = _
            unfold wholeL
            rw [HLen.out, hOL, show (11 : Int) + (n : Int) = 12 + (n : Int) - 1 by omega]
          obtain ⟨A6, c6, e6, _⟩ := Rd.of_own HLv.out.out
          subst e6
          have q00 : wr.cell? ⟨g, 0, none⟩ = some (.slice A6 OL.length c6) := (HLv.out.bk.cell 0).trans rfl
          have HLa := Lib.hid (HLv.out.more (World.grownBy_alloc wr (.cells #[.int .i64 20, .int .i64 (12 + (n : Int) - 1), .int .i64 0, .int .i64 0, .int .u64 0] 43) none))
          have HBa := Lib.hid (HBk.out.alloc HBk.out.size (.cells #[.int .i64 20, .int .i64 (12 + (n : Int) - 1), .int .i64 0, .int .i64 0, .int .u64 0] 43))
          have hz3 : g + 1 ≤ (wr.alloc (.cells #[.int .i64 20, .int .i64 (12 + (n : Int) - 1), .int .i64 0, .int .i64 0, .int .u64 0] 43)).heap.size := HLa.out.lt
          have Ra : Hid (RdI (wr.alloc (.cells #[.int .i64 20, .int .i64 (12 + (n : Int) - 1), .int .i64 0, .int .i64 0, .int .u64 0] 43)) (wr.heap.size + 1) (some ⟨wr.heap.size, 0, none⟩) 1 [⟨20, 12 + (n : Int) - 1, 0, 0, 0⟩]) := Rd.new wr _ _ (size := 5) (m := 1) rfl (by simp [maxLen])
          have tok1 : True := trivial
          clear hal hOL
          by_cases h256 : 256 < OL.length + 1
          · have h256i : (256 : Int) < (OL.length : Int) + 1 := by omega
            have HE : Hid (joinL l = ([], 3)) := by
              show _ = _
              unfold joinL
              rw [HLen.out, if_neg hn0, if_neg hn4, if_neg (by rw [HF0.out]; decide), if_pos (by rw [HW.out, List.length_append]; exact h256)]
            go_wp2_with (first
              | (at_builtin
                 have _t := tok1
                 go_must (
                   refine wpList_app _ rfl (.tmp 50) (.tmp 56) 23 rfl (g + 1) 43 i0 _ 5 40 Try.underlying23 hi0 hz0 hz1 hz2 rfl (by omega) _ _ _ rfl HLa.out.out _ _ 1 _ _ rfl Ra.out (insCells_one _) ?_ ?_ ?_ ?_
                   · have := HOl.out; simp only [maxLen]; omega
                   · have := HOl.out; omega
                   · exact hz3
                   intro v5 w5 hown5 hg5 _
                   obtain ⟨A5, c5, hv5, _, _⟩ := Rd.of_own_cap hown5
                   subst hv5
                   have HO5 := Lib.hid hown5
                   have hk5 := HLa.out.bk.grown hg5 (HLa.out.bk.ne_own HLa.out.out (by decide))
                   have q0 : w5.cell? ⟨g, 0, none⟩ = some (.slice A6 OL.length c6) := (hk5.cell 0).trans rfl
                   have p0 := hk5.frozen 0
                   have HB5 := Lib.hid (HBa.out.trans ((below_row HLa.out.out hg5 (Nat.le_of_lt HLa.out.lt)).mono HGw.out))
                   have hg5' := hk5.lt
                   clear hown5 hg5 hk5 _t tok1))
              | fail)
            go_ret2
            exact JoinPost.fail HE.out (HB5.out.setCell (p := ⟨g, 0, none⟩) HGw.out _)
          · have h256i : ¬ ((256 : Int) < (OL.length : Int) + 1) := by omega
            have HE : Hid (joinL l = (OL ++ [⟨20, 12 + (n : Int) - 1, 0, 0, 0⟩], 0)) := by
              show _ = _
              unfold joinL
              rw [HLen.out, if_neg hn0, if_neg hn4, if_neg (by rw [HF0.out]; decide), if_neg (by rw [HW.out, List.length_append]; exact h256), HW.out]
            go_wp2_with (first
              | (at_builtin
                 have _t := tok1
                 go_must (
                   refine wpList_app _ rfl (.tmp 50) (.tmp 56) 23 rfl (g + 1) 43 i0 _ 5 40 Try.underlying23 hi0 hz0 hz1 hz2 rfl (by omega) _ _ _ rfl HLa.out.out _ _ 1 _ _ rfl Ra.out (insCells_one _) ?_ ?_ ?_ ?_
                   · have := HOl.out; simp only [maxLen]; omega
                   · have := HOl.out; omega
                   · exact hz3
                   intro v5 w5 hown5 hg5 _
                   obtain ⟨A5, c5, hv5, _, _⟩ := Rd.of_own_cap hown5
                   subst hv5
                   have HO5 := Lib.hid hown5
                   have hk5 := HLa.out.bk.grown hg5 (HLa.out.bk.ne_own HLa.out.out (by decide))
                   have q0 : w5.cell? ⟨g, 0, none⟩ = some (.slice A6 OL.length c6) := (hk5.cell 0).trans rfl
                   have p0 := hk5.frozen 0
                   have HB5 := Lib.hid (HBa.out.trans ((below_row HLa.out.out hg5 (Nat.le_of_lt HLa.out.lt)).mono HGw.out))
                   have hg5' := hk5.lt
                   clear hown5 hg5 hk5 _t tok1))
              | fail)
            go_ret2
            refine ⟨.slice A5 (OL.length + 1) c5, by rw [HE.out]; rfl, ?_, HB5.out.setCell (p := ⟨g, 0, none⟩) HGw.out _⟩
            rw [HE.out]
            have h := own_base (ownsRow_setCell_below HO5.out (a := ⟨g, 0, none⟩) (by simp) (.slice A5 (OL.length + 1) c5)) (show w.heap.size ≤ g + 1 by have := HGw.out; omega)
            rw [insCells_append, List.length_append]
            exact h
end Go.Proofs.Ytddaeaimimdonaa
