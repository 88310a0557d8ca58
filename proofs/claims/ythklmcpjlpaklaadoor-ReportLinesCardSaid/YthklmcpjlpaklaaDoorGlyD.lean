/-
  Chapter 2: contract of reader.shut.
-/
import Derived.Test.YthklmcpjlpaklaaDoorGlyC
import Derived.Deep.DeepCutAuto
namespace Go.Proofs.YthklmcpjlpaklaaDoor
open Go.RowKit
set_option linter.unusedVariables false

theorem Rdr.below {w w' : World} {g : Nat} {s : ByteArray} {st : LSt} (h : Rdr w g s st) (hb : Below w.heap.size w w') : Rdr w' g s st := by
  obtain ⟨v, hk, ho⟩ := h
  exact ⟨v, hk.below hb hk.lt, own_below ho hb⟩
theorem Rdr.lt {w : World} {g : Nat} {s : ByteArray} {st : LSt} (h : Rdr w g s st) : g < w.heap.size := by
  obtain ⟨v, hk, _⟩ := h
  exact hk.lt
theorem Rdr.drew {w : World} {g : Nat} {s : ByteArray} {st : LSt} (h : Rdr w g s st) : Rdr w.drew g s st := by
  obtain ⟨v, hk, ho⟩ := h
  exact ⟨v, hk.drew, ho.drew⟩
theorem Frm.of_below {g : Nat} {w w' : World} (hg : g ≤ w.heap.size) (hb : Below w.heap.size w w') : Frm g w w' :=
  ⟨hb.mono hg, fun k o hk _ _ => (hb.block k (Array.getElem?_eq_some_iff.1 hk).1).trans hk⟩
theorem Frm.setCell {g : Nat} {a w : World} (h : Frm g a w) (j : Nat) (v : Value) : Frm g a (w.setCell ⟨g, j, none⟩ v) :=
  ⟨h.below.setCell (p := ⟨g, j, none⟩) (Nat.le_refl _) v, h.kept.setCell ⟨g, j, none⟩ rfl v⟩
/-- The reader's cells. -/
theorem Rdr.cells {w : World} {g : Nat} {s : ByteArray} {st : LSt} (h : Rdr w g s st) : ∃ A c, st.list.length ≤ c ∧ w.cell? ⟨g, 0, none⟩ = some (.string s) ∧ w.cell? ⟨g, 1, none⟩ = some (.slice A st.list.length c) ∧ w.cell? ⟨g, 2, none⟩ = some (.int .i64 (st.line : Int)) ∧ w.cell? ⟨g, 3, none⟩ = some (.int .i64 st.fromI) ∧ w.cell? ⟨g, 4, none⟩ = some (.bool st.remark) ∧ (∀ i, w.frozen? ⟨g, i, none⟩ = false) ∧ RdT w w.heap.size A st.list.length st.list ∧ w.ownsRow (g + 1) 74 5 (.slice A st.list.length c) st.list.length (tokCells st.list) := by
  obtain ⟨v, hk, ho⟩ := h
  obtain ⟨A, c, rfl, hc, r⟩ := Rd.of_own_cap ho
  refine ⟨A, c, hc, ?_, ?_, ?_, ?_, ?_, fun i => hk.frozen i, r, ho⟩
  · rw [hk.cell]; rfl
  · rw [hk.cell]; rfl
  · rw [hk.cell]; rfl
  · rw [hk.cell]; rfl
  · rw [hk.cell]; rfl
theorem Rdr.from {w : World} {g : Nat} {s : ByteArray} {st : LSt} (h : Rdr w g s st) (x : Option Nat) : Rdr (w.setCell ⟨g, 3, none⟩ (.int .i64 ({ st with from_ := x } : LSt).fromI)) g s { st with from_ := x } := by
  obtain ⟨v, hk, ho⟩ := h
  refine ⟨v, ?_, ownsRow_setCell_below ho (a := ⟨g, 3, none⟩) (by simp) _⟩
  have := hk.set_ 3 (.int .i64 ({ st with from_ := x } : LSt).fromI)
  simp at this
  exact this
theorem Rdr.remark {w : World} {g : Nat} {s : ByteArray} {st : LSt} (h : Rdr w g s st) (x : Bool) : Rdr (w.setCell ⟨g, 4, none⟩ (.bool x)) g s { st with remark := x } := by
  obtain ⟨v, hk, ho⟩ := h
  refine ⟨v, ?_, ownsRow_setCell_below ho (a := ⟨g, 4, none⟩) (by simp) _⟩
  have := hk.set_ 4 (.bool x)
  simp at this
  exact this
theorem Rdr.line {w : World} {g : Nat} {s : ByteArray} {st : LSt} (h : Rdr w g s st) (x : Nat) : Rdr (w.setCell ⟨g, 2, none⟩ (.int .i64 (x : Int))) g s { st with line := x } := by
  obtain ⟨v, hk, ho⟩ := h
  refine ⟨v, ?_, ownsRow_setCell_below ho (a := ⟨g, 2, none⟩) (by simp) _⟩
  have := hk.set_ 2 (.int .i64 (x : Int))
  simp at this
  exact this

theorem str_cut {P : Program} {t : TypeId} (ht : P.underlying t = some .string) {s W : ByteArray} {a z : Nat} (h1 : a ≤ z) (h2 : z ≤ s.size) (hW : s.extract a z = W) (w : World) :
    (Instr.slice t (.string s) (some (.int .i64 a)) (some (.int .i64 z)) none).run P w = .ok (.string W) w := by
  rw [run_slice_string w t s .i64 .i64 a z ht (by omega) (by omega) (by omega), Int.toNat_natCast, Int.toNat_natCast, hW]

def ShutPost (g : Nat) (s : ByteArray) (tz : Nat) (st : LSt) (w : World) (e : Ending) (w' : World) : Prop :=
  e = .returned (.tuple #[.int .i64 (shutP s tz st).1, .int .i64 (shutP s tz st).2.1]) ∧ Rdr w' g s (shutP s tz st).2.2 ∧ Frm g w w'
theorem ShutPost.mk {g : Nat} {s : ByteArray} {tz : Nat} {st st' : LSt} {w w' : World} {p e : Int} (h : shutP s tz st = (p, e, st')) (hr : Rdr w' g s st') (hf : Frm g w w') :
    ShutPost g s tz st w (.returned (.tuple #[.int .i64 p, .int .i64 e])) w' := by
  refine ⟨by rw [h], by rw [h]; exact hr, hf⟩
theorem shutP_some {s : ByteArray} {tz a : Nat} {st : LSt} {W : ByteArray} (h : st.from_ = some a) (hW : s.extract a tz = W) : shutP s tz st =
    (if headIs W then match numP W.data.toList with
      | none => ((a : Int), 22, { st with from_ := none })
      | some n => ((a : Int), putP { st with from_ := none } { kind := 1, text := ⟨#[]⟩, num := n, at_ := a, line := 0 })
    else if 24 < W.size then ((a : Int), 21, { st with from_ := none }) else ((a : Int), putP { st with from_ := none } { kind := 0, text := W, num := 0, at_ := a, line := 0 })) := by
  subst hW
  rw [shutP, h]
  rfl
theorem headIs_at {W : ByteArray} (h : 0 < W.size) : headIs W = isDigit (W[0]'h).toNat := by
  have e : W.data.toList = (W[0]'h) :: W.data.toList.drop 1 := by
    have := drop_cons W 0 h
    simpa using this
  rw [headIs, e]

set_option maxRecDepth 100000 in
set_option maxHeartbeats 4000000 in
theorem shut_any (g : Nat) (s : ByteArray) (tz : Nat) (st : LSt) (w : World) (hR : Rdr w g s st) (hl : st.list.length ≤ 16384) (hs : s.size ≤ 65536) (hto : tz ≤ s.size) (hfrom : ∀ a, st.from_ = some a → a < tz) :
    Calls Tryd.prog 33 #[.pointer (some ⟨g, 0, none⟩), .int .i64 (tz : Int)] w (ShutPost g s tz st w) := by
  have hg := hR.lt
  obtain ⟨A, c, hc, k0, k1, k2, k3, k4, kf, _, _⟩ := hR.cells
  have f3 := kf 3
  clear kf hc
  cases hf : st.from_ with
  | none =>
    have e3 : st.fromI = -1 := by rw [LSt.fromI, hf]
    rw [e3] at k3
    have HE : Hid (shutP s tz st = (0, 0, st)) := by show _ = _; rw [shutP, hf]
    have HR := Lib.hid hR
    clear hf hR hfrom e3
    go_enter Tryd.func33, Tryd.ntmps33
    go_wp2
    go_ret2
    exact .mk HE.out HR.out (Frm.refl _ _)
  | some a =>
    have hat := hfrom a hf
    have e3 : st.fromI = (a : Int) := by rw [LSt.fromI, hf]
    rw [e3] at k3
    obtain ⟨W, hW⟩ : ∃ W, s.extract a tz = W := ⟨_, rfl⟩
    have hWs : W.size = tz - a := by rw [← hW, ByteArray.size_extract]; omega
    have HE := Lib.hid (shutP_some hf hW)
    have HR1 : Hid (Rdr (w.setCell ⟨g, 3, none⟩ (.int .i64 (-1))) g s { st with from_ := none }) := hR.from none
    have HF1 : Hid (Frm g w (w.setCell ⟨g, 3, none⟩ (.int .i64 (-1)))) := (Frm.refl g w).setCell 3 _
    have HL1 : Hid (({ st with from_ := none } : LSt).list.length ≤ 16384) := hl
    have hszz : (w.setCell ⟨g, 3, none⟩ (.int .i64 (-1))).heap.size = w.heap.size := by simp
    obtain ⟨st1, hst1⟩ : ∃ st1, ({ st with from_ := none } : LSt) = st1 := ⟨_, rfl⟩
    rw [hst1] at HE HR1 HL1
    have HW := Lib.hid hW
    have hW63 : W.size ≤ maxLen := by unfold maxLen; omega
    clear hf hR hfrom e3 hl hst1
    go_enter Tryd.func33, Tryd.ntmps33
    go_upto_region 5 with fail
    obtain ⟨w1, hw1⟩ : ∃ w1, w.setCell ⟨g, 3, none⟩ (.int .i64 (-1)) = w1 := ⟨_, rfl⟩
    rw [hw1] at HR1 HF1 hszz
    obtain ⟨A, c, hc, k0, k1, k2, k3, k4, kf, _, _⟩ := HR1.out.cells
    rw [hw1]
    clear hw1 hc kf
    have hW0 : 0 < W.size := by omega
    have HH := Lib.hid (headIs_at hW0)
    have hsl := str_cut (P := Tryd.prog) Tryd.underlying9 (by omega) hto HW.out
    obtain ⟨c0, hc0⟩ : ∃ c0, (W[0]'hW0).toNat = c0 := ⟨_, rfl⟩
    have hcr : c0 ≤ 255 := by have := (W[0]'hW0).toNat_lt; omega
    have hrun : ∀ Wd, (Instr.index 9 (.string W) (.int .i64 0)).run Tryd.prog Wd = .ok (.int .u8 (c0 : Int)) Wd := fun Wd => by
      rw [← hc0, run_index_string Wd _ _ _ _ Tryd.underlying9, dif_pos ⟨by omega, by omega⟩]; rfl
    rw [hc0] at HH
    clear hc0 hW
    have HFA : Hid (∀ o : Obj, Frm g w1 (w1.alloc o)) := fun o => Frm.of_below (by omega) ((Below.refl _ _).alloc (Nat.le_refl _) o)
    have HRA : Hid (∀ o : Obj, Rdr (w1.alloc o) g s st1) := fun o => HR1.out.below ((Below.refl _ _).alloc (Nat.le_refl _) o)
    cases hd : isDigit c0
    · have HD := Lib.hid hd
      rw [hd] at HH
      clear hd
      go_wp2_with fail
      refine (digit_is _ HD.out).mono ?_
      rintro e w' ⟨rfl, rfl⟩
      by_cases h24 : 24 < W.size
      · have HE2 : Hid (shutP s tz st = ((a : Int), 21, st1)) := by
          show _ = _
          rw [HE.out, HH.out, if_neg (by simp), if_pos h24]
        go_wp2
        go_ret2
        exact .mk HE2.out (HRA.out _) (HF1.out.trans (HFA.out _))
      · have HE2 : Hid (shutP s tz st = ((a : Int), putP st1 { kind := 0, text := W, num := 0, at_ := a, line := 0 })) := by
          show _ = _
          rw [HE.out, HH.out, if_neg (by simp), if_neg h24]
        go_wp2_with fail
        refine (put_any g s st1 { kind := 0, text := W, num := 0, at_ := a, line := 0 } _ (HRA.out _) HL1.out).mono ?_
        rintro e w2 ⟨rfl, hr2, hf2⟩
        have HR2 := Lib.hid hr2
        have HF2 := Lib.hid hf2
        clear hr2 hf2
        go_wp2
        go_ret2
        exact .mk HE2.out HR2.out (HF1.out.trans ((HFA.out _).trans HF2.out))
    · have HD := Lib.hid hd
      rw [hd] at HH
      clear hd
      go_wp2_with fail
      refine (digit_is _ HD.out).mono ?_
      rintro e w' ⟨rfl, rfl⟩
      go_wp2_with fail
      refine (number_any W hW63 _).mono ?_
      rintro e w2 ⟨rfl, hb2⟩
      have HF2 : Hid (Frm g w1 w2) := (HFA.out _).trans (Frm.of_below (by simp; omega) hb2)
      have HR2 : Hid (Rdr w2 g s st1) := (HRA.out _).below hb2
      have B2 : Hid (Bk w2 w.heap.size 74 #[.int .i64 0, .string W, .int .u64 0, .int .i64 (a : Int), .int .i64 0]) := by
        rw [← hszz]; exact (Bk.new w1 _ _).below hb2 (by simp)
      have hz2 := B2.out.lt
      cases hn : numP W.data.toList with
      | none =>
        have HE2 : Hid (shutP s tz st = ((a : Int), 22, st1)) := by
          show _ = _
          rw [HE.out, HH.out, if_pos rfl, hn]
        clear hb2 hn
        go_wp2
        go_ret2
        exact .mk HE2.out HR2.out (HF1.out.trans HF2.out)
      | some n =>
        have HE2 : Hid (shutP s tz st = ((a : Int), putP st1 { kind := 1, text := ⟨#[]⟩, num := n, at_ := a, line := 0 })) := by
          show _ = _
          rw [HE.out, HH.out, if_pos rfl, hn]
        have b0 := B2.out.cell 0
        have b1 := B2.out.cell 1
        have b2 := B2.out.cell 2
        have b3 := B2.out.cell 3
        have b4 := B2.out.cell 4
        have f0 := B2.out.frozen 0
        have f1 := B2.out.frozen 1
        have f2 := B2.out.frozen 2
        have f3 := B2.out.frozen 3
        have f4 := B2.out.frozen 4
        simp at b0 b1 b2 b3 b4
        have hbw : Below w1.heap.size w1 w2 := ((Below.refl _ _).alloc (Nat.le_refl _) _).trans (hb2.mono (by simp))
        have hst : ∀ (x : World) (j : Nat) (v : Value), Below w1.heap.size w1 x → Below w1.heap.size w1 (x.setCell ⟨w.heap.size, j, none⟩ v) := fun x j v hx => hx.setCell (p := ⟨w.heap.size, j, none⟩) (by rw [hszz]; exact Nat.le_refl _) v
        have HB5 := Lib.hid (hst _ 4 (.int .i64 0) (hst _ 3 (.int .i64 (a : Int)) (hst _ 2 (.int .u64 (n : Int)) (hst _ 1 (.string ⟨#[]⟩) (hst _ 0 (.int .i64 1) hbw)))))
        have HR5 := Lib.hid (HR1.out.below HB5.out)
        have HF5 := Lib.hid (Frm.of_below (g := g) (by omega) HB5.out)
        clear hb2 hn hbw hst
        go_wp2_with fail
        refine (put_any g s st1 { kind := 1, text := ⟨#[]⟩, num := n, at_ := a, line := 0 } _ HR5.out HL1.out).mono ?_
        rintro e w6 ⟨rfl, hr6, hf6⟩
        have HR6 := Lib.hid hr6
        have HF6 := Lib.hid hf6
        clear hr6 hf6
        go_wp2
        go_ret2
        exact .mk HE2.out HR6.out (HF1.out.trans (HF5.out.trans HF6.out))
end Go.Proofs.YthklmcpjlpaklaaDoor
