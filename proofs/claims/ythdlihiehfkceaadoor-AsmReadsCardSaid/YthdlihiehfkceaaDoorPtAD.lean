/-
  Texts of one proof, joined (wip/gen/pack.py): AsmE, AsmF, GlyH, AsmG, GlyM, GlyT, GlyU, GlyV, LexP.
-/
import Derived.Test.YthdlihiehfkceaaDoorPtAC
import Derived.Maps.OwnSet
import Derived.Maps.OwnOps
import Derived.StringKeys
import Derived.Test.YthdlihiehfkceaaDoorPtAA
import Derived.Test.YthdlihiehfkceaaDoorShelf
import Derived.Lib.ItoaMem
import Derived.Lib.AppendIntMem
import Derived.Lib.OwnBridge
import Derived.Lib.Walk
import Derived.BigCall
import Derived.BigGuard
import Derived.Test.YthdlihiehfkceaaDoorPtAB
import Derived.Lib.ItoaLen
namespace Go.Proofs.YthdlihiehfkceaaDoor
open Go.RowKit Go.Maps Go.WideMaps
set_option linter.unusedVariables false

/-- What stays: all below B but two blocks. -/
structure PFrm (B g ma : Nat) (w w' : World) : Prop where
  os : w'.os = w.os
  tape : w'.tape = w.tape
  output : w'.output = w.output
  size : w.heap.size ≤ w'.heap.size
  block : ∀ i, i < B → i ≠ g → i ≠ ma → w'.heap[i]? = w.heap[i]?
theorem PFrm.refl (B g ma : Nat) (w : World) : PFrm B g ma w w := ⟨rfl, rfl, rfl, Nat.le_refl _, fun _ _ _ _ => rfl⟩
theorem PFrm.trans {B g ma : Nat} {a b c : World} (h : PFrm B g ma a b) (k : PFrm B g ma b c) : PFrm B g ma a c :=
  ⟨k.os.trans h.os, k.tape.trans h.tape, k.output.trans h.output, Nat.le_trans h.size k.size, fun i h1 h2 h3 => (k.block i h1 h2 h3).trans (h.block i h1 h2 h3)⟩
theorem PFrm.grown {B g ma : Nat} {a b c : World} {row : Option Nat} (h : PFrm B g ma a b) (k : b.grownBy c row) (hB : B ≤ a.heap.size) (hr : ∀ r, row = some r → B ≤ r ∨ r = g ∨ r = ma) : PFrm B g ma a c :=
  h.trans ⟨k.os, k.tape, k.output, k.size, fun i h1 h2 h3 => k.block i (by have := h.size; omega) (fun e => by rcases hr i e.symm with h | h | h <;> omega)⟩
def lk (s : ByteArray) : Lit := .string s.data.toList
theorem lk_inj {s t : ByteArray} (h : lk s = lk t) : s = t := by
  unfold lk at h
  injection h with h
  exact ByteArray.ext (Array.toList_inj.1 h)
/-- The labels, as the map holds them. -/
structure Labs (D : DataW Unit) (p : Prg) : Prop where
  has : ∀ s, Maps.has D (lk s) = (p.find s).isSome
  val : ∀ s z, D.atKey (lk s) z = match p.find s with
    | some (q : Nat) => .lit (.int .i64 q)
    | none => z
def PrgIn (w : World) (B g ma : Nat) (p : Prg) : Prop :=
  ∃ v D, Bk w g 71 #[v, .map (some ma)] ∧ w.ownsRow B 77 1 v p.orders.length (p.orders.map fun o => (Lin.order o).val) ∧
    w.ownsMap Tryd.prog 9 (plainElem (H := Unit) Tryd.prog 3) ma p.labels.length D ∧ Labs D p ∧ g < B ∧ ma < B ∧ g ≠ ma
theorem find_snoc (o : List Ord) (l : List (ByteArray × Nat)) (s t : ByteArray) (n : Nat) (h : (Prg.find ⟨o, l⟩ s) = none) :
    Prg.find ⟨o, l ++ [(s, n)]⟩ t = if t = s then some n else Prg.find ⟨o, l⟩ t := by
  unfold Prg.find at h ⊢
  simp only [List.find?_append, List.find?_cons, List.find?_nil] at h ⊢
  by_cases e : t = s
  · subst e
    rw [if_pos rfl]
    cases hf : l.find? fun x => decide (x.1 = t) with
    | some y => rw [hf] at h; cases h
    | none => simp
  · rw [if_neg e]
    have : decide (s = t) = false := decide_eq_false (fun h => e h.symm)
    rw [this]
    cases l.find? fun x => decide (x.1 = t) <;> rfl
theorem Labs.snoc {D : DataW Unit} {o : List Ord} {l : List (ByteArray × Nat)} (h : Labs D ⟨o, l⟩) (hD : Maps.IsMap D) (s : ByteArray) (n : Nat) (hn : Prg.find ⟨o, l⟩ s = none) :
    Labs (D.put (lk s) (.lit (.int .i64 n))) ⟨o, l ++ [(s, n)]⟩ := by
  have hkl : WideAt.IsKeyLit (lk s) := by first | exact trivial | exact ⟨_, rfl⟩ | simp [WideAt.IsKeyLit, lk]
  refine ⟨fun t => ?_, fun t z => ?_⟩
  · rw [find_snoc o l s t n hn]
    by_cases e : t = s
    · subst e; rw [if_pos rfl, Maps.has_put_same hD hkl]; rfl
    · rw [if_neg e, Maps.has_put_other (fun he => e (lk_inj he)), h.has]
  · rw [find_snoc o l s t n hn]
    by_cases e : t = s
    · subst e; rw [if_pos rfl]; exact Maps.atKey_put_same hD hkl _ _
    · rw [if_neg e, Maps.atKey_put_other (fun he => e (lk_inj he))]; exact h.val t z
theorem ta_self {P : Program} {t xT : TypeId} {d : TypeDesc} (h : P.underlying t = some d) (hd : (match d with | .interface _ => true | _ => false) = false) (v : Value) (w : World) :
    (Instr.typeAssert (.iface t v) xT t true).run P w = .ok (.tuple #[v, .bool true]) w ∧ (Instr.typeAssert (.iface t v) xT t false).run P w = .ok v w := by
  cases d <;> first | (cases hd; done) | (constructor <;> simp [Instr.typeAssert, run_underlying h, go_sem, Result.andThen])
theorem ta_other {P : Program} {t xT a : TypeId} {d : TypeDesc} {z : Value} (h : P.underlying a = some d) (hd : (match d with | .interface _ => true | _ => false) = false) (hne : t ≠ a) (v : Value) (w : World) (hz : (zeroValue a).run P w = .ok z w) :
    (Instr.typeAssert (.iface t v) xT a true).run P w = .ok (.tuple #[z, .bool false]) w := by
  cases d <;> first | (cases hd; done) | simp [Instr.typeAssert, run_underlying h, go_sem, Result.andThen, hne, hz]
theorem ta_mark (v : Value) (w : World) : (Instr.typeAssert (.iface 109 v) 77 109 true).run Tryd.prog w = .ok (.tuple #[v, .bool true]) w := (ta_self Tryd.underlying109 rfl v w).1
theorem ta_order (v : Value) (w : World) : (Instr.typeAssert (.iface 111 v) 77 111 false).run Tryd.prog w = .ok v w := (ta_self Tryd.underlying111 rfl v w).2
theorem ta_not (v : Value) (w : World) : (Instr.typeAssert (.iface 111 v) 77 109 true).run Tryd.prog w = .ok (.tuple #[.agg #[.string ⟨#[]⟩, .int .i64 0], .bool false]) w :=
  ta_other Tryd.underlying109 rfl (by decide) v w (by kernel_rfl)
theorem str_keyed : Keyed Tryd.prog 9 := string_keyed Tryd.underlying9
theorem a_grown_drewN (w : World) (n : Nat) (row : Option Nat) : w.grownBy (w.drewN n) row := ⟨rfl, rfl, rfl, Nat.le_refl _, fun _ _ _ => rfl⟩
theorem look_str {w : World} {ma n : Nat} {D : DataW Unit} {p : Prg} (h : w.ownsMap Tryd.prog 9 (plainElem (H := Unit) Tryd.prog 3) ma n D) (hl : Labs D p) {s : ByteArray} (hs : s.size ≤ maxLen) :
    (Instr.lookup 68 (.map (some ma)) (.string s) true).run Tryd.prog w = .ok (.tuple #[.int .i64 ((p.find s).getD 0 : Nat), .bool (p.find s).isSome]) w := by
  obtain ⟨v, ps, hrun, hv⟩ := h.look_ok str_keyed Tryd.underlying68 (z := .int .i64 0) (by kernel_rfl) (zd := .lit (.int .i64 0)) (zp := []) (plainElem_int Tryd.underlying3 (by decide)) (keyOf_string_mk Tryd.underlying9 hs)
  obtain ⟨c, rfl, hc, _⟩ := plainElem_int_inv Tryd.underlying3 hv
  have hc1 := congrArg Prod.fst hc
  have e1 := hl.val s (.lit (.int .i64 0))
  have e2 := hl.has s
  rw [hrun]
  show Result.ok (Value.tuple #[.int .i64 c, .bool (Maps.has D (lk s))]) w = _
  rw [e2]
  have hc2 : D.atKey (lk s) (.lit (.int .i64 0)) = .lit (.int .i64 c) := hc1
  rw [e1] at hc2
  cases hf : p.find s with
  | none => rw [hf] at hc2; simp only [DataW.lit.injEq, Lit.int.injEq, true_and] at hc2; rw [← hc2]; rfl
  | some q => rw [hf] at hc2; simp only [DataW.lit.injEq, Lit.int.injEq, true_and] at hc2; rw [← hc2]; rfl
theorem own_not (v : Value) : v.ownBlock = none ∨ v.ownBlock ≠ none := by cases v.ownBlock <;> simp
def PutPostA (B g ma : Nat) (p : Prg) (x : Lin) (w : World) (e : Ending) (w' : World) : Prop :=
  e = .returned (.int .i64 (addP p x).2) ∧ PrgIn w' B g ma (addP p x).1 ∧ PFrm B g ma w w'

set_option maxRecDepth 100000 in
set_option maxHeartbeats 4000000 in
theorem put_mark (B g ma : Nat) (p : Prg) (s : ByteArray) (at_ : Int) (w : World) (hp : PrgIn w B g ma p) (hB : B ≤ w.heap.size) (hs : s.size ≤ maxLen) (hl : p.labels.length ≤ 100000) (ho : p.orders.length ≤ 256) :
    Calls Tryd.prog 34 #[.pointer (some ⟨g, 0, none⟩), (Lin.mark s at_).val] w (PutPostA B g ma p (.mark s at_) w) := by
  obtain ⟨v, D, hb, hrow, hmap, hlab, hgB, hmB, hne⟩ := hp
  obtain ⟨A, c, hv, _, _⟩ := Rd.of_own_cap hrow
  subst hv
  have hkey : keyOf Tryd.prog 9 (.string s) = some (lk s) := keyOf_string_mk Tryd.underlying9 hs
  have hKi := Tryd.underlying3
  obtain ⟨L, hL⟩ : ∃ L, p.orders.length = L := ⟨_, rfl⟩
  have HL := Lib.hid hL
  rw [hL] at hrow hb ho
  clear hL
  have g0 : w.cell? ⟨g, 0, none⟩ = some (.slice A L c) := hb.cell 0
  have g1 : w.cell? ⟨g, 1, none⟩ = some (.map (some ma)) := hb.cell 1
  have HBk := Lib.hid hb
  have HRow := Lib.hid hrow
  have HMap := Lib.hid hmap
  have HLab := Lib.hid hlab
  go_enter Tryd.func34, Tryd.ntmps34
  simp only [Lin.val]
  have hta := ta_mark
  go_upto_region 3 with fail
  obtain ⟨W0, hW0⟩ : ∃ W0, w.alloc (.cells #[.string s, .int .i64 at_] 109) = W0 := ⟨_, rfl⟩
  rw [hW0]
  have hg0 : w.grownBy W0 none := by rw [← hW0]; exact World.grownBy_alloc _ _ _
  have HG0 := Lib.hid hg0
  have m0 : W0.cell? ⟨w.heap.size, 0, none⟩ = some (.string s) := by rw [← hW0]; exact (Bk.new w 109 #[.string s, .int .i64 at_]).cell 0
  have HBk0 := Lib.hid (HBk.out.grown hg0 (by simp))
  have HRow0 := Lib.hid (HRow.out.kept hg0 (own_not _))
  have HMap0 := Lib.hid (HMap.out.kept hg0 (by simp))
  have g0' : W0.cell? ⟨g, 0, none⟩ = some (.slice A L c) := HBk0.out.cell 0
  have g1' : W0.cell? ⟨g, 1, none⟩ = some (.map (some ma)) := HBk0.out.cell 1
  have hlk := fun k => look_str (HMap0.out.kept (a_grown_drewN W0 k none) (by simp)) HLab.out hs
  clear hW0 hg0 g0 g1 hb hrow hmap hta HBk HRow HMap
  cases hf : p.find s with
  | some q =>
    rw [hf] at hlk
    simp only [Option.getD_some, Option.isSome_some] at hlk
    have HA : Hid (addP p (.mark s at_) = (p, 5)) := by show _ = _; simp [addP, hf]
    clear hf
    go_quiet (fail)
    go_wp2
    go_ret
    refine ⟨by rw [HA.out]; rfl, ?_, ?_⟩
    · rw [HA.out]
      exact ⟨_, D, HBk0.out, by rw [HL.out]; exact HRow0.out.kept (a_grown_drewN _ _ none) (own_not _), HMap0.out.kept (a_grown_drewN _ _ none) (by simp), HLab.out, hgB, hmB, hne⟩
    · exact ((PFrm.refl _ _ _ _).grown HG0.out hB (fun r e => by cases e)).grown (a_grown_drewN _ nq none) hB (fun r e => by cases e)
  | none =>
    rw [hf] at hlk
    simp only [Option.getD_none, Option.isSome_none] at hlk
    have HA : Hid (addP p (.mark s at_) = (⟨p.orders, p.labels ++ [(s, p.orders.length)]⟩, 0)) := by show _ = _; simp [addP, hf]
    have HF := Lib.hid hf
    clear hf
    go_quiet (fail)
    go_wp2
    obtain ⟨W1, hW1⟩ : ∃ W1, W0.drewN nq = W1 := ⟨_, rfl⟩
    rw [hW1]
    have hg1 : W0.grownBy W1 none := by rw [← hW1]; exact a_grown_drewN _ _ _
    have HF1 := Lib.hid (((PFrm.refl B g ma w).grown HG0.out hB (fun r e => by cases e)).grown hg1 hB (fun r e => by cases e))
    have HBk1 := Lib.hid (HBk0.out.grown hg1 (by simp))
    have HRow1 := Lib.hid (HRow0.out.kept hg1 (own_not _))
    have HMap1 := Lib.hid (HMap0.out.kept hg1 (by simp))
    have k0 : W1.cell? ⟨g, 0, none⟩ = some (.slice A L c) := HBk1.out.cell 0
    have k1 : W1.cell? ⟨g, 1, none⟩ = some (.map (some ma)) := HBk1.out.cell 1
    have k2 : W1.cell? ⟨w.heap.size, 0, none⟩ = some (.string s) := by rw [← hW1]; exact m0
    clear hW1 hg1 m0 g0' g1' hlk
    go_still_tail 11, (by kernel_rfl)
    have HMap2 := Lib.hid (HMap1.out.kept (show W1.grownBy W1.drew none from ⟨rfl, rfl, rfl, Nat.le_refl _, fun _ _ _ => rfl⟩) (by simp))
    have hqN : p.labels.length < maxLen := by unfold maxLen; omega
    have hwf : (Lit.int .i64 (L : Int)).wf = true := by
      simp [Lit.wf, IntKind.min, IntKind.max, IntKind.signed, IntKind.bits]
      omega
    refine wpList_mapUpdate_own _ (by rfl) (.tmp 29) (.tmp 31) (.tmp 36) 68 (by rfl) 9 3 str_keyed Tryd.underlying68 (plainElem (H := Unit) Tryd.prog 3) ma p.labels.length D (by rfl) HMap2.out hqN (.string s) (.int .i64 L) (lk s) (by rfl) (by rfl) hkey _ _ (plainElem_int hKi hwf) ?_
    intro w9 hown9 hg9
    have HOwn9 := Lib.hid hown9
    have HG9 : Hid (W1.grownBy w9 (some ma)) := (show W1.grownBy W1.drew (some ma) from ⟨rfl, rfl, rfl, Nat.le_refl _, fun _ _ _ => rfl⟩).trans hg9
    clear hown9 hg9 k0 k1 k2
    go_wp2
    go_ret
    refine ⟨by rw [HA.out]; rfl, ?_, ?_⟩
    · have hrow9 := HRow1.out.kept HG9.out (by
        cases hv : (Value.slice A L c).ownBlock with
        | none => exact .inl rfl
        | some k => exact .inr (by have := (HRow1.out.lt k hv).1; simp; omega))
      rw [HA.out]
      refine ⟨_, _, HBk1.out.grown HG9.out (by simp; omega), ?_, by simpa using HOwn9.out, ?_, hgB, hmB, hne⟩
      · show w9.ownsRow B _ 1 _ p.orders.length _
        rw [HL.out]; exact hrow9
      · rw [HL.out]; exact HLab.out.snoc HMap1.out.isMap s L HF.out
    · exact HF1.out.grown HG9.out hB (fun r e => by cases e; exact .inr (.inr rfl))

theorem info_line : (Tryd.prog.info? 77).map (fun i => (i.zero, i.size, i.bytes)) = some (some .nilIface, 1, 16) := by kernel_rfl
set_option maxRecDepth 100000 in
set_option maxHeartbeats 4000000 in
theorem put_order (B g ma : Nat) (p : Prg) (o : Ord) (w : World) (hp : PrgIn w B g ma p) (hB : B ≤ w.heap.size) (ho : p.orders.length ≤ 256) :
    Calls Tryd.prog 34 #[.pointer (some ⟨g, 0, none⟩), (Lin.order o).val] w (PutPostA B g ma p (.order o) w) := by
  obtain ⟨v, D, hb, hrow, hmap, hlab, hgB, hmB, hne⟩ := hp
  obtain ⟨A, c, hv, _, _⟩ := Rd.of_own_cap hrow
  subst hv
  obtain ⟨L, hL⟩ : ∃ L, p.orders.length = L := ⟨_, rfl⟩
  have HL := Lib.hid hL
  rw [hL] at hrow hb ho
  clear hL
  obtain ⟨V, hV⟩ : ∃ V, Value.agg o.cells.toArray = V := ⟨_, rfl⟩
  have HV : Hid ((Lin.order o).val = .iface 111 V) := by show _ = _; rw [← hV]; rfl
  rw [HV.out]
  clear hV
  obtain ⟨ib, hib, hz0, hz1, hz2⟩ := info_parts info_line
  have HBk := Lib.hid hb
  have HRow := Lib.hid hrow
  have HMap := Lib.hid hmap
  have HLab := Lib.hid hlab
  go_enter Tryd.func34, Tryd.ntmps34
  have hta := ta_not V
  go_upto_region 8 with fail
  obtain ⟨W0, hW0⟩ : ∃ W0, w.alloc (.cells #[.string ⟨#[]⟩, .int .i64 0] 109) = W0 := ⟨_, rfl⟩
  rw [hW0]
  have hg0 : w.grownBy W0 none := by rw [← hW0]; exact World.grownBy_alloc _ _ _
  have hB0 : B ≤ W0.heap.size := Nat.le_trans hB hg0.size
  have HF0 := Lib.hid ((PFrm.refl B g ma w).grown hg0 hB (fun r e => by cases e))
  have HBk0 := Lib.hid (HBk.out.grown hg0 (by simp))
  have HRow0 := Lib.hid (HRow.out.kept hg0 (own_not _))
  have HMap0 := Lib.hid (HMap.out.kept hg0 (by simp))
  have g0' : W0.cell? ⟨g, 0, none⟩ = some (.slice A L c) := HBk0.out.cell 0
  have f0' := HBk0.out.frozen 0
  clear hW0 hg0 hb hrow hmap hta HBk HRow HMap
  by_cases h256 : 256 ≤ L
  · have HA : Hid (addP p (.order o) = (p, 3)) := by show _ = _; have := HL.out; simp [addP]; omega
    have hge : decide ((L : Int) ≥ 256) = true := decide_eq_true (by omega)
    go_wp2
    go_ret
    refine ⟨by rw [HA.out]; rfl, ?_, HF0.out⟩
    rw [HA.out]
    exact ⟨_, D, HBk0.out, by rw [HL.out]; exact HRow0.out, HMap0.out, HLab.out, hgB, hmB, hne⟩
  · have HA : Hid (addP p (.order o) = (⟨p.orders ++ [o], p.labels⟩, 0)) := by show _ = _; have := HL.out; simp [addP]; omega
    have hge : decide ((L : Int) ≥ 256) = false := decide_eq_false (by omega)
    have HRa := Lib.hid (HRow0.out.alloc (.cells #[.iface 111 V] 77))
    have HBa := Lib.hid (HBk0.out.alloc (.cells #[.iface 111 V] 77))
    have HMa := Lib.hid (HMap0.out.kept (World.grownBy_alloc W0 (.cells #[.iface 111 V] 77) none) (by simp))
    have HFa := Lib.hid (HF0.out.grown (World.grownBy_alloc W0 (.cells #[.iface 111 V] 77) none) hB (fun r e => by cases e))
    have hz3 : B ≤ (W0.alloc (.cells #[.iface 111 V] 77)).heap.size := by simp; omega
    have Ra : Hid (Rd (W0.alloc (.cells #[.iface 111 V] 77)) (W0.heap.size + 1) 1 (some ⟨W0.heap.size, 0, none⟩) 1 [.iface 111 V]) := Rd.new W0 _ _ (size := 1) (m := 1) rfl (by simp [maxLen])
    go_wp2_with (
      at_builtin
      go_must (
        refine wpList_app _ rfl (.tmp 47) (.tmp 49) 69 rfl B 77 ib _ 1 16 Tryd.underlying69 hib hz0 hz1 hz2 rfl (by omega) _ _ _ rfl HRa.out _ _ 1 _ _ rfl Ra.out ?_ ?_ ?_ ?_ ?_
        · intro u hu; simp at hu; subst hu; rfl
        · simp only [maxLen]; omega
        · omega
        · exact hz3
        intro v7 w7 hown7 hg7 _
        obtain ⟨A7, c7, hv7, _, _⟩ := Rd.of_own_cap hown7
        subst hv7
        have hlt7 : ∀ k, (Value.slice A L c).ownBlock = some k → B ≤ k := fun k hk => (HRa.out.lt k hk).1
        have hb7 := HBa.out.grown hg7 (fun e => by have := hlt7 _ e; omega)
        have HB7 := Lib.hid hb7
        have HM7 := Lib.hid (HMa.out.kept hg7 (fun e => by have := hlt7 _ e.symm; omega))
        have HF7 := Lib.hid (HFa.out.grown hg7 hB (fun r e => .inl (hlt7 r e)))
        have HO7 := Lib.hid hown7
        have q0 : w7.cell? ⟨g, 0, none⟩ = some (.slice A L c) := hb7.cell 0
        have p0 := hb7.frozen 0
        clear hown7 hg7 hb7 hlt7))
    go_ret
    refine ⟨by rw [HA.out]; rfl, ?_, ?_⟩
    · rw [HA.out]
      refine ⟨.slice A7 (L + 1) c7, D, HB7.out.set_ 0 _, ?_, HM7.out.kept (a_grown_set _ _ _ _) (by simp; omega), ⟨HLab.out.has, HLab.out.val⟩, hgB, hmB, hne⟩
      show World.ownsRow _ B _ 1 _ (p.orders ++ [o]).length ((p.orders ++ [o]).map _)
      rw [List.length_append, HL.out, List.map_append, List.map_singleton, HV.out]
      exact HO7.out.kept (a_grown_set w7 g 0 (.slice A7 (L + 1) c7)) (by
        cases hv : (Value.slice A7 (L + 1) c7).ownBlock with
        | none => exact .inl rfl
        | some k => exact .inr (by have := (HO7.out.lt k hv).1; simp; omega))
    · exact HF7.out.grown (a_grown_set _ _ _ _) hB (fun r e => by cases e; exact .inr (.inl rfl))
end Go.Proofs.YthdlihiehfkceaaDoor

namespace Go.Proofs.YthdlihiehfkceaaDoor
open Go.RowKit Go.Maps Go.WideMaps
set_option linter.unusedVariables false

theorem a_info_instr : (Tryd.prog.info? 35).map (fun i => (i.zero, i.size, i.bytes)) = some (some (.agg #[.int .i64 0, .int .i64 0, .int .i64 0, .int .i64 0, .int .u64 0]), 5, 40) := by kernel_rfl
def CodePost (p : Prg) (w : World) (e : Ending) (w' : World) : Prop :=
  ∃ v, e = .returned (.tuple #[v, .int .i64 (codeGo p p.orders 0 []).2.1, .int .i64 (codeGo p p.orders 0 []).2.2]) ∧
    w'.ownsRow w.heap.size 35 5 v (codeGo p p.orders 0 []).1.length (insCells (codeGo p p.orders 0 []).1) ∧ Below w.heap.size w w'
theorem CodePost.mk {p : Prg} {w w' : World} {l : List Ins} {a e : Int} {v : Value} (h : codeGo p p.orders 0 [] = (l, a, e)) (hr : w'.ownsRow w.heap.size 35 5 v l.length (insCells l)) (hb : Below w.heap.size w w') :
    CodePost p w (.returned (.tuple #[v, .int .i64 a, .int .i64 e])) w' := by
  unfold CodePost
  rw [h]
  exact ⟨v, rfl, hr, hb⟩

set_option maxRecDepth 100000 in
set_option maxHeartbeats 8000000 in
theorem code_any (B g ma : Nat) (p : Prg) (w : World) (hp : PrgIn w B g ma p) (hB : B ≤ w.heap.size) (ho : p.orders.length ≤ 256) (hq : ∀ s q, p.find s = some q → q ≤ 256) (hs : ∀ o ∈ p.orders, o.name.size ≤ maxLen) :
    Calls Tryd.prog 35 #[.pointer (some ⟨g, 0, none⟩)] w (CodePost p w) := by
  obtain ⟨v, D, hb, hrow, hmap, hlab, hgB, hmB, hne⟩ := hp
  obtain ⟨A, c, hv, _, hrd⟩ := Rd.of_own_cap hrow
  subst hv
  obtain ⟨L, hL⟩ : ∃ L, p.orders.length = L := ⟨_, rfl⟩
  have HL := Lib.hid hL
  rw [hL] at hrow hb ho hrd
  clear hL
  obtain ⟨i0, hi0, hz0, hz1, hz2⟩ := info_parts a_info_instr
  have HRd := Lib.hid hrd
  have HMap := Lib.hid hmap
  have HLab := Lib.hid hlab
  have HBk := Lib.hid hb
  have g0 : w.cell? ⟨g, 0, none⟩ = some (.slice A L c) := hb.cell 0
  clear hrow hrd hmap hb
  go_enter Tryd.func35, Tryd.ntmps35
  go_wp2
  clear g0
  go_loopw [5, 16] (fun ov i wr => ∃ (k : Nat) (out : List Ins), (k ≤ L ∧ i = .int .i64 k) ∧ out.length = k ∧ Hid (wr.ownsRow w.heap.size 35 5 ov k (insCells out)) ∧ Hid (codeGo p (p.orders.drop k) k out = codeGo p p.orders 0 []) ∧ Hid (Below w.heap.size w wr)) (fun _ i _ => L - (intOf i).toNat)
  case atStart => exact ⟨0, [], ⟨by omega, rfl⟩, rfl, World.ownsRow_nil _ _ _ _, rfl, Below.refl _ _⟩
  case round =>
    obtain ⟨k, out, ⟨hk, rfl⟩, hout, HOwn, HC, HB'⟩ := hrel
    by_cases hlt : k < L
    · have hlti : (k : Int) < (L : Int) := by omega
      have hlt' : k < p.orders.length := by rw [HL.out]; exact hlt
      obtain ⟨o, hok⟩ : ∃ o, p.orders[k]? = some o := ⟨_, List.getElem?_eq_getElem hlt'⟩
      have hdr : p.orders.drop k = o :: p.orders.drop (k + 1) := by
        rw [List.drop_eq_getElem_cons hlt']; rw [List.getElem?_eq_getElem hlt'] at hok; injection hok with hok; rw [hok]
      have hon : o.name.size ≤ maxLen := hs o (List.mem_of_getElem? hok)
      obtain ⟨bA, oA, rfl, hbA, hcA⟩ := HRd.out.at_ (show 0 < L by omega)
      have x0 : wr.cell? ⟨bA, oA + k, none⟩ = some (.iface 111 (.agg o.cells.toArray)) := by
        rw [HB'.out.cell (p := ⟨bA, oA + k, none⟩) hbA]
        exact hcA k _ (by rw [List.getElem?_map, hok]; rfl)
      have hc := HC.out
      rw [hdr, codeGo] at hc
      clear hdr hcA hok hlt'
      obtain ⟨⟨oo, oa, ob, oc, om⟩, on, oat⟩ := o
      simp only [Ord.cells, Ins.cells, List.cons_append, List.nil_append] at x0
      simp only at hc hon
      have hta := ta_order (.agg #[.int .i64 oo, .int .i64 oa, .int .i64 ob, .int .i64 oc, .int .u64 om, .string on, .int .i64 oat])
      obtain ⟨ov', co, hov, _, _⟩ := Rd.of_own_cap HOwn.out
      go_upto_region 6 with fail
      obtain ⟨W1, hW1⟩ : ∃ W1, wr.alloc (.cells #[.int .i64 oo, .int .i64 oa, .int .i64 ob, .int .i64 oc, .int .u64 om, .string on, .int .i64 oat] 111) = W1 := ⟨_, rfl⟩
      rw [hW1]
      have HI1 : Hid (Bk W1 wr.heap.size 111 #[.int .i64 oo, .int .i64 oa, .int .i64 ob, .int .i64 oc, .int .u64 om, .string on, .int .i64 oat]) := by show Bk _ _ _ _; rw [← hW1]; exact Bk.new _ _ _
      have hg1 : wr.grownBy W1 none := by rw [← hW1]; exact World.grownBy_alloc _ _ _
      have HOwn1 := Lib.hid (HOwn.out.kept hg1 (own_not _))
      have HB1 := Lib.hid (HB'.out.grown hg1 HB'.out.size (fun r e => by cases e))
      subst hov
      have HSw : Hid (w.heap.size ≤ wr.heap.size) := HB'.out.size
      clear hW1 hg1 x0 hta
      have j0 : W1.cell? ⟨wr.heap.size, 0, none⟩ = some (.int .i64 oo) := HI1.out.cell 0
      have j1 : W1.cell? ⟨wr.heap.size, 1, none⟩ = some (.int .i64 oa) := HI1.out.cell 1
      have j2 : W1.cell? ⟨wr.heap.size, 2, none⟩ = some (.int .i64 ob) := HI1.out.cell 2
      have j3 : W1.cell? ⟨wr.heap.size, 3, none⟩ = some (.int .i64 oc) := HI1.out.cell 3
      have j4 : W1.cell? ⟨wr.heap.size, 4, none⟩ = some (.int .u64 om) := HI1.out.cell 4
      have j5 : W1.cell? ⟨wr.heap.size, 5, none⟩ = some (.string on) := HI1.out.cell 5
      have j6 : W1.cell? ⟨wr.heap.size, 6, none⟩ = some (.int .i64 oat) := HI1.out.cell 6
      by_cases he : on = ⟨#[]⟩
      · rw [if_pos he] at hc
        have HC2 := Lib.hid hc
        have hx : (on.toList == []) = true := by rw [he, beq_iff_eq, ByteArray.toList_eq]
        have HOwnV := HOwn1
        have HBV := HB1
        clear hc he
        go_upto_region 11 with fail
        have HOa := Lib.hid (HOwnV.out.alloc (.cells #[.int .i64 oo, .int .i64 oa, .int .i64 ob, .int .i64 oc, .int .u64 (om)] 35))
        have HBa := Lib.hid (HBV.out.alloc HBV.out.size (.cells #[.int .i64 oo, .int .i64 oa, .int .i64 ob, .int .i64 oc, .int .u64 (om)] 35))
        have hz3 := HBa.out.size
        have Ra : Hid (Rd (W1.alloc (.cells #[.int .i64 oo, .int .i64 oa, .int .i64 ob, .int .i64 oc, .int .u64 (om)] 35)) (W1.heap.size + 1) 5 (some ⟨W1.heap.size, 0, none⟩) 1 (insCells [⟨oo, oa, ob, oc, om⟩])) := Rd.new W1 _ _ (size := 5) (m := 1) rfl (by simp [maxLen])
        go_wp2_with (
          at_builtin
          go_must (
            refine wpList_app _ rfl (.tmp 53) (.tmp 56) 22 rfl w.heap.size 35 i0 _ 5 40 Tryd.underlying22 hi0 hz0 hz1 hz2 rfl (by omega) _ k _ rfl HOa.out _ _ 1 _ _ rfl Ra.out (insCells_one _) ?_ ?_ ?_ ?_
            · simp only [maxLen]; omega
            · omega
            · exact hz3
            intro v5 w5 hown5 hg5 _
            have HO5 := Lib.hid hown5
            have HB5 := Lib.hid (below_own HBa.out HOa.out hg5 (Nat.le_refl _) hz3)
            clear hown5 hg5))
        go_roundw
        case rel =>
          refine ⟨k + 1, out ++ [⟨oo, oa, ob, oc, om⟩], ⟨by omega, by go_num⟩, by simp [hout], ?_, HC2, HB5.out⟩
          show World.ownsRow _ _ _ _ _ _ _
          rw [insCells_append]
          exact HO5.out
        case measure => simp [intOf]; omega
      · rw [if_neg he] at hc
        have hx : (on.toList == []) = false := by
          rw [beq_eq_false_iff_ne]
          intro e
          rw [ByteArray.toList_eq] at e
          exact he (ByteArray.ext (Array.toList_inj.1 e))
        have hgm : w.grownBy W1 none := grown_of_below HB1.out
        have hlk := fun k => look_str ((HMap.out.kept hgm (by simp)).kept (a_grown_drewN W1 k none) (by simp)) HLab.out hon
        have g1 : W1.cell? ⟨g, 1, none⟩ = some (.map (some ma)) := (HBk.out.grown hgm (by simp)).cell 1
        clear he hgm
        cases hf : p.find on with
        | none =>
          rw [hf] at hc hlk
          simp only [Option.getD_none, Option.isSome_none] at hlk hc
          have HE := Lib.hid hc.symm
          clear hc hf
          go_upto_region 7 with fail
          go_quiet (fail)
          go_upto_region 9 with fail
          obtain ⟨W2, hW2⟩ : ∃ W2, W1.drewN nq = W2 := ⟨_, rfl⟩
          rw [hW2]
          have HB2 : Hid (Below w.heap.size w W2) := by show Below _ _ _; rw [← hW2]; exact below_drewN HB1.out _
          have j6' : W2.cell? ⟨wr.heap.size, 6, none⟩ = some (.int .i64 oat) := by rw [← hW2]; exact j6
          clear hW2 j6
          go_quiet (fail)
          go_wp2
          go_ret3
          exact .mk HE.out (World.ownsRow_nil _ _ _ _) (below_drewN HB2.out _)
        | some q =>
          rw [hf] at hc hlk
          simp only [Option.getD_some, Option.isSome_some] at hlk hc
          have hq256 := hq on q hf
          clear hf
          obtain ⟨fb, hfb⟩ : ∃ fb, forthP oo k q = fb := ⟨_, rfl⟩
          rw [hfb] at hc
          have HFb := Lib.hid hfb
          clear hfb
          go_upto_region 7 with fail
          go_quiet (fail)
          go_upto_region 8 with fail
          obtain ⟨W2, hW2⟩ : ∃ W2, W1.drewN nq = W2 := ⟨_, rfl⟩
          rw [hW2]
          have HB2 : Hid (Below w.heap.size w W2) := by show Below _ _ _; rw [← hW2]; exact below_drewN HB1.out _
          have HI2 : Hid (Bk W2 wr.heap.size 111 #[.int .i64 oo, .int .i64 oa, .int .i64 ob, .int .i64 oc, .int .u64 om, .string on, .int .i64 oat]) := by show Bk _ _ _ _; rw [← hW2]; exact HI1.out
          have HOwn2 : Hid (W2.ownsRow w.heap.size 35 5 (.slice ov' k co) k (insCells out)) := by show World.ownsRow _ _ _ _ _ _ _; rw [← hW2]; exact HOwn1.out.kept (a_grown_drewN _ _ none) (own_not _)
          have j6' : W2.cell? ⟨wr.heap.size, 6, none⟩ = some (.int .i64 oat) := HI2.out.cell 6
          have j0' : W2.cell? ⟨wr.heap.size, 0, none⟩ = some (.int .i64 oo) := HI2.out.cell 0
          have j4' : W2.cell? ⟨wr.heap.size, 4, none⟩ = some (.int .u64 om) := HI2.out.cell 4
          have f4' := HI2.out.frozen 4
          clear hW2 j0 j1 j2 j3 j4 j5 j6 g1 hlk
          cases fb
          · have HE : Hid (codeGo p p.orders 0 [] = ([], oat, 24)) := hc.symm
            clear hc
            go_upto_region 9 with (go_at_call 45; refine (forth_any _ _ _ _).mono ?_; rintro e w' ⟨rfl, rfl⟩; rw [HFb.out])
            go_quiet (fail)
            go_wp2
            go_ret3
            exact .mk HE.out (World.ownsRow_nil _ _ _ _) (below_drewN HB2.out _)
          · rw [if_pos rfl] at hc
            have HC2 := Lib.hid hc
            clear hc
            go_upto_region 11 with (go_at_call 45; refine (forth_any _ _ _ _).mono ?_; rintro e w9 ⟨rfl, he9⟩; obtain rfl : W2 = w9 := he9.symm; rw [HFb.out])
            obtain ⟨V, hV⟩ : ∃ V, W2.setCell ⟨wr.heap.size, 4, none⟩ (.int .u64 (q : Int)) = V := ⟨_, rfl⟩
            rw [hV]
            have HI3 : Hid (Bk V wr.heap.size 111 #[.int .i64 oo, .int .i64 oa, .int .i64 ob, .int .i64 oc, .int .u64 (q : Int), .string on, .int .i64 oat]) := by show Bk _ _ _ _; rw [← hV]; exact HI2.out.set_ 4 _
            have HBV : Hid (Below w.heap.size w V) := by show Below _ _ _; rw [← hV]; exact HB2.out.setCell (p := ⟨wr.heap.size, 4, none⟩) HSw.out _
            have HOwnV : Hid (V.ownsRow w.heap.size 35 5 (.slice ov' k co) k (insCells out)) := by
              show World.ownsRow _ _ _ _ _ _ _
              rw [← hV]
              exact HOwn2.out.kept (a_grown_set W2 wr.heap.size 4 (.int .u64 (q : Int))) (by
                cases hv : (Value.slice ov' k co).ownBlock with
                | none => exact .inl rfl
                | some j => exact .inr (fun e => HI2.out.ne_own HOwn2.out (by decide) (hv.trans e)))
            clear hV j6' j0' j4' f4'
            have k0 : V.cell? ⟨wr.heap.size, 0, none⟩ = some (.int .i64 oo) := HI3.out.cell 0
            have k1 : V.cell? ⟨wr.heap.size, 1, none⟩ = some (.int .i64 oa) := HI3.out.cell 1
            have k2 : V.cell? ⟨wr.heap.size, 2, none⟩ = some (.int .i64 ob) := HI3.out.cell 2
            have k3 : V.cell? ⟨wr.heap.size, 3, none⟩ = some (.int .i64 oc) := HI3.out.cell 3
            have k4 : V.cell? ⟨wr.heap.size, 4, none⟩ = some (.int .u64 (q : Int)) := HI3.out.cell 4
            have HOa := Lib.hid (HOwnV.out.alloc (.cells #[.int .i64 oo, .int .i64 oa, .int .i64 ob, .int .i64 oc, .int .u64 ((q : Int))] 35))
            have HBa := Lib.hid (HBV.out.alloc HBV.out.size (.cells #[.int .i64 oo, .int .i64 oa, .int .i64 ob, .int .i64 oc, .int .u64 ((q : Int))] 35))
            have hz3 := HBa.out.size
            have Ra : Hid (Rd (V.alloc (.cells #[.int .i64 oo, .int .i64 oa, .int .i64 ob, .int .i64 oc, .int .u64 ((q : Int))] 35)) (V.heap.size + 1) 5 (some ⟨V.heap.size, 0, none⟩) 1 (insCells [⟨oo, oa, ob, oc, (q : Int)⟩])) := Rd.new V _ _ (size := 5) (m := 1) rfl (by simp [maxLen])
            go_wp2_with (
              at_builtin
              go_must (
                refine wpList_app _ rfl (.tmp 53) (.tmp 56) 22 rfl w.heap.size 35 i0 _ 5 40 Tryd.underlying22 hi0 hz0 hz1 hz2 rfl (by omega) _ k _ rfl HOa.out _ _ 1 _ _ rfl Ra.out (insCells_one _) ?_ ?_ ?_ ?_
                · simp only [maxLen]; omega
                · omega
                · exact hz3
                intro v5 w5 hown5 hg5 _
                have HO5 := Lib.hid hown5
                have HB5 := Lib.hid (below_own HBa.out HOa.out hg5 (Nat.le_refl _) hz3)
                clear hown5 hg5))
            go_roundw
            case rel =>
              refine ⟨k + 1, out ++ [⟨oo, oa, ob, oc, (q : Int)⟩], ⟨by omega, by go_num⟩, by simp [hout], ?_, HC2, HB5.out⟩
              show World.ownsRow _ _ _ _ _ _ _
              rw [insCells_append]
              exact HO5.out
            case measure => simp [intOf]; omega
    · obtain rfl : k = L := by omega
      have hc := HC.out
      rw [← HL.out, List.drop_length, codeGo] at hc
      have HE := Lib.hid hc.symm
      clear hc
      go_wp2
      go_ret3
      exact .mk HE.out (by rw [hout]; exact HOwn.out) HB'.out
end Go.Proofs.YthdlihiehfkceaaDoor

namespace Go.Proofs.YthdlihiehfkceaaDoor
open Go.RowKit Go.Sort Go.Lib Go.Shelf
set_option linter.unusedVariables false

/-- The library's table of powers of ten, as it is laid. -/
abbrev PowTab (w : World) : Prop := Lib.TabIs Tryd.prog w "internal/strconv.uint64pow10" .u64 Lib.pow10Tab
theorem PowTab.below {w w' : World} (h : PowTab w) (hb : Below w.heap.size w w') : PowTab w' := Lib.tabBelow_of_tabIs h w' hb
theorem holds_zero0 (w : World) (T : TypeId) (nd : Nat) (hs : nd ≤ 24) : Holds (fun (b : UInt8) => Value.int .u8 (b.toNat : Int)) (w.alloc (.cells zeros24 T)) w.heap.size 0 (Array.replicate nd (0 : UInt8)) := fun j hj => by
  have hj' : j < nd := by simpa using hj
  refine ⟨?_, World.frozen?_alloc_new _ _ _ _⟩
  rw [World.cell?_alloc_new, zeros24_at _ (by omega), getElem!_pos _ j hj]
  simp

set_option maxHeartbeats 6400000 in
set_option maxRecDepth 100000 in
theorem ifuint_any (u : Nat) (hu64 : u < 18446744073709551616) (w : World) (htab : PowTab w) :
    Calls Tryd.prog 69 #[.int .u64 u, .int .i64 10] w fun e w' => e = .returned (.string ⟨(Lib.decDigits u).toArray⟩) ∧ Below w.heap.size w w' := by
  by_cases hi : u < 100
  · go_enter Tryd.func69, Tryd.ntmps69
    go_wp2_with (go_at_call 83; refine (Tryd.internal_strconv_small u hi _).mono ?_; rintro e w' ⟨rfl, rfl⟩)
    go_ret
    exact ⟨rfl, Below.refl _ _⟩
  · have hu1 : 1 ≤ u := by omega
    have hnd20 : Lib.nDigits u ≤ 20 := by have := Lib.numDigits_eq u hu1 hu64; split at this <;> omega
    have hb3 : Lib.nDigits u ≤ 24 := by omega
    have hal : Tryd.prog.arrayLen 138 = 24 := by kernel_rfl
    have hH0 := holds_zero0 w 138 (Lib.nDigits u) (by omega)
    have hfmt := Tryd.internal_strconv_formatBase10 w.heap.size 0 24 u (Array.replicate (Lib.nDigits u) 0) (w.alloc (.cells Lib.zeros24 138)) hH0 (by rw [Array.size_replicate]; exact Lib.lt_pow_nDigits u) hu64 (by rw [Array.size_replicate]; omega)
    rw [Array.size_replicate] at hfmt
    have HH0 := Lib.hid hH0
    have hsl1 : ∀ W, (Instr.sliceAt 138 (.pointer (some ⟨w.heap.size, 0, none⟩)) none (some (.int .i64 (Lib.nDigits u : Int))) none).run Tryd.prog W = .ok (.slice (some ⟨w.heap.size, 0, none⟩) (Lib.nDigits u) 24) W := fun W => by
      rw [run_sliceAt_array_h W 138 ⟨w.heap.size, 0, none⟩ (by kernel_rfl) .i64 (Lib.nDigits u : Int) (by omega) (by rw [hal]; omega)]
      go_simp
    clear hH0 hal
    go_enter Tryd.func69, Tryd.ntmps69
    go_wp2_with (first
      | (go_at_call 84; refine (Tryd.internal_strconv_numDigits u hu1 hu64 _ (Lib.tabIs_alloc htab _)).mono ?_; rintro e w' ⟨rfl, rfl⟩))
    go_at_call 85
    refine hfmt.mono ?_
    rintro e w' ⟨rfl, k, v', dk, rfl, hF⟩
    have hcv : (convert 31 9 (.slice (some ⟨w.heap.size, 0, none⟩) (Lib.nDigits u) 24)).run Tryd.prog ((putRow (fun (b : UInt8) => Value.int .u8 (b.toNat : Int)) (w.alloc (.cells Lib.zeros24 138)) w.heap.size 0 dk).drewN k) = .ok (.string ⟨(Lib.decDigits u).toArray⟩) ((putRow (fun (b : UInt8) => Value.int .u8 (b.toNat : Int)) (w.alloc (.cells Lib.zeros24 138)) w.heap.size 0 dk).drewN k) := by
      have h := run_convert_bytes_back (P := Tryd.prog) ((putRow (fun (b : UInt8) => Value.int .u8 (b.toNat : Int)) (w.alloc (.cells Lib.zeros24 138)) w.heap.size 0 dk).drewN k) 31 9 5 ⟨w.heap.size, 0, none⟩ 24 (Lib.decDigits u) Tryd.underlying31 Tryd.underlying5 Tryd.underlying9 (fun j hj => by
        rw [Lib.row_is_numeral hF j hj, Lib.add_plain, World.cell?_drewN]
        exact cell?_putRow (fun (b : UInt8) => Value.int .u8 (b.toNat : Int)) _ w.heap.size 0 _ dk HH0.out (by rw [hF.size, Array.size_replicate]) j (by rw [hF.size]; rw [Lib.decDigits_length] at hj; exact hj))
      rw [Lib.decDigits_length] at h
      exact h
    have HB : Hid (Below w.heap.size w ((putRow (fun (b : UInt8) => Value.int .u8 (b.toNat : Int)) (w.alloc (.cells Lib.zeros24 138)) w.heap.size 0 dk).drewN k)) :=
      below_drewN (Lib.below_putRow (q := 0) ((Below.refl _ w).alloc (Nat.le_refl _) _) (Nat.le_refl _)) k
    go_wp2
    go_ret
    exact ⟨rfl, HB.out⟩

set_option maxRecDepth 100000 in
theorem fuint_any (u : Nat) (hu64 : u < 18446744073709551616) (w : World) (htab : PowTab w) :
    Calls Tryd.prog 51 #[.int .u64 u, .int .i64 10] w fun e w' => e = .returned (.string ⟨(Lib.decDigits u).toArray⟩) ∧ Below w.heap.size w w' := by
  go_enter Tryd.func51, Tryd.ntmps51
  go_wp2_with (go_at_call 69; refine (ifuint_any u hu64 _ htab).mono ?_; rintro e w' ⟨rfl, hb⟩)
  go_ret
  exact ⟨rfl, hb⟩
end Go.Proofs.YthdlihiehfkceaaDoor

namespace Go.Proofs.YthdlihiehfkceaaDoor
open Go.RowKit
set_option linter.unusedVariables false

theorem aput_any (B g ma : Nat) (p : Prg) (x : Lin) (w : World) (hp : PrgIn w B g ma p) (hB : B ≤ w.heap.size) (hs : ∀ s a, x = .mark s a → s.size ≤ maxLen) (hl : p.labels.length ≤ 100000) (ho : p.orders.length ≤ 256) :
    Calls Tryd.prog 34 #[.pointer (some ⟨g, 0, none⟩), x.val] w (PutPostA B g ma p x w) := by
  cases x with
  | mark s a => exact put_mark B g ma p s a w hp hB (hs s a rfl) hl ho
  | order o => exact put_order B g ma p o w hp hB ho
theorem where_mark (s : ByteArray) (a : Int) (w : World) : Calls Tryd.prog 115 #[.agg #[.string s, .int .i64 a]] w fun e w' => e = .returned (.int .i64 a) ∧ Below w.heap.size w w' := by
  go_enter Tryd.func115, Tryd.ntmps115
  go_wp2
  go_ret
  exact ⟨rfl, (Below.refl _ _).alloc (Nat.le_refl _) _⟩
theorem where_order (o : Ord) (w : World) : Calls Tryd.prog 116 #[.agg o.cells.toArray] w fun e w' => e = .returned (.int .i64 o.at_) ∧ Below w.heap.size w w' := by
  obtain ⟨⟨oo, oa, ob, oc, om⟩, on, oat⟩ := o
  simp only [Ord.cells, Ins.cells, List.cons_append, List.nil_append]
  go_enter Tryd.func116, Tryd.ntmps116
  go_wp2
  go_ret
  exact ⟨rfl, (Below.refl _ _).alloc (Nat.le_refl _) _⟩
theorem a_itoa (n : Nat) (h1 : n ≤ 9223372036854775807) (w : World) (htab : PowTab w) :
    Calls Tryd.prog 47 #[.int .i64 n] w fun e w' => e = .returned (.string ⟨(Lib.decDigits n).toArray⟩) ∧ Below w.heap.size w w' := by
  refine (Tryd.strconv_Itoa n (by omega) (by omega) w htab).mono ?_
  rintro e w' ⟨rfl, k, os, rfl⟩
  refine ⟨?_, Lib.below_grow _ w (Nat.le_refl _) k os⟩
  have : Lib.itoa (n : Int) = Lib.decDigits n := by simp [Lib.itoa]
  rw [this]
/-- A place's name. -/
def labelP (n : Nat) : ByteArray := ⟨#[76]⟩ ++ ⟨(Lib.decDigits n).toArray⟩
theorem label_any (n : Nat) (h1 : n ≤ 9223372036854775807) (w : World) (htab : PowTab w) :
    Calls Tryd.prog 23 #[.int .i64 n] w fun e w' => e = .returned (.string (labelP n)) ∧ Below w.heap.size w w' := by
  have hdl : (Lib.decDigits n).length ≤ 20 := by rw [Lib.decDigits_length]; exact Lib.nDigits_le20 n (by omega)
  go_enter Tryd.func23, Tryd.ntmps23
  go_wp2_with (go_at_call 47; refine (a_itoa n h1 _ htab).mono ?_; rintro e w' ⟨rfl, hb⟩)
  go_ret
  exact ⟨rfl, hb⟩
end Go.Proofs.YthdlihiehfkceaaDoor

namespace Go.Proofs.YthdlihiehfkceaaDoor
open Go.RowKit
set_option linter.unusedVariables false
attribute [local go_sem] Oper.semAt_some

theorem linesv_in (F : Fence) (nn : Nat) (hF : F.fn 32) (hro : F.round = none) (A : Option Addr) (n c : Nat) (w : World) :
    CallsIn F nn Tryd.prog 32 #[.slice A n c] w fun e w' => e = .returned (.func (.func 55) #[] #[.pointer (some ⟨w.heap.size, 0, none⟩)]) ∧ w' = w.alloc (.cells #[.slice A n c] 56) := by
  refine callsIn_of_wp Tryd.func32 rfl hF ?_ hro
  simp only [Tryd.ntmps32, List.size_toArray, List.length_cons, List.length_nil, Nat.reduceAdd, Nat.reduceSub, Array.replicate_succ, Array.replicate_zero, List.push_toArray, List.append_toArray, List.nil_append, List.cons_append]
  gi_wp2
  go_ret
  exact ⟨rfl, rfl⟩
theorem lines_stops (F : Fence) (nn : Nat) (hF : F.fn 55) (hro : F.round = none) (hn : 1 ≤ nn) (Bn n₀ : Nat) (l : List Tok) (A : Option Addr) (n c : Nat) (w : World)
    (hn0 : n₀ ≤ w.heap.size) (hBn0 : Bn < w.heap.size) (hc : w.cell? ⟨Bn, 0, none⟩ = some (.slice A n c)) (hL : RdT w n₀ A n l) (h48 : n ≤ 1000000) :
    SeqStopsK F nn Tryd.prog 55 #[.pointer (some ⟨Bn, 0, none⟩)] slEnc (Below n₀) (fun ys => ys.length = (linesP l).length) (fun pre => pre.length ≤ (linesP l).length) (linesP l).length w := fun lp J Jx W hW hJ _ hY h0 =>
  lines1_in F nn hF hro hn lp Bn n₀ l A n c J Jx W hJ hY (Nat.le_trans hn0 hW.size) ((hW.cell (p := ⟨Bn, 0, none⟩) hBn0).trans hc) (hL.below (hW.mono hn0)) h48 h0

/-- How many lines are kept. -/
def keptLines (l : List Tok) (most : Int) : Int := if most ≤ 0 then 0 else min most (linesP l).length
def LinesPost (l : List Tok) (most : Int) (w : World) (e : Ending) (w' : World) : Prop := ∃ A' m c', e = .returned (.slice A' m c') ∧ (m : Int) = keptLines l most ∧ Below w.heap.size w w'
theorem info_slT : (Tryd.prog.info? 56).map (fun i => (i.zero, i.size, i.bytes)) = some (some (.slice none 0 0), 1, 24) := by kernel_rfl

end Go.Proofs.YthdlihiehfkceaaDoor

namespace Go.Proofs.YthdlihiehfkceaaDoor
open Go.RowKit
set_option linter.unusedVariables false

section
variable {F : Fence} {n : Nat} {P : Program}
/-- What a loop keeps books in: the rounds' deferred calls at D (none), its record behind them. -/
def Booked (D : Nat) (r : Loop) (W : World) : Prop := W.heap[D]? = some (.deferred (some [])) ∧ W.heap[D + 1]? = some (.loop r)
theorem Booked.lt {D : Nat} {r : Loop} {W : World} (h : Booked D r W) : D + 1 < W.heap.size := (Array.getElem?_eq_some_iff.1 h.2).1
theorem Booked.grown {D : Nat} {r : Loop} {W W' : World} {row : Option Nat} (h : Booked D r W) (hg : W.grownBy W' row) (hw : ∀ k, row = some k → ∃ o : Obj, W.heap[k]? = some o ∧ o.isWalk = true) : Booked D r W' :=
  ⟨(grownBy_keeps hg hw h.1 rfl).trans h.1, (grownBy_keeps hg hw h.2 rfl).trans h.2⟩
theorem Booked.others {D : Nat} {r : Loop} {W W' : World} (h : Booked D r W) (hk : KeepsOthers W W') : Booked D r W' := ⟨hk.same _ _ h.1 rfl, hk.same _ _ h.2 rfl⟩
theorem Booked.set {D : Nat} {r : Loop} {W : World} (h : Booked D r W) (r' : Loop) : Booked D r' (W.putObj (D + 1) (.loop r')) :=
  ⟨(World.putObj_heap_other (by omega)).trans h.1, World.putObj_heap_same h.lt⟩
theorem Booked.keeps {D n₀ : Nat} {r : Loop} {W : World} (h : Booked D r W) (hn : n₀ ≤ D) (o : Obj) : Below n₀ W (W.putObj (D + 1) o) :=
  (Below.refl n₀ W).grown (grownBy_putObj' W (D + 1) o) (by have := h.lt; omega) (fun k e => by cases e; omega)

/-- The contract of an iterator that tells T of each element at its yield. -/
def SeqTold {α : Type} (F : Fence) (n : Nat) (P : Program) (g : Nat) (lb : Array Value) (enc : α → Array Value) (n₀ : Nat) (T : List α × α → World → Prop) (S Sp : List α → Prop) (w : World) : Prop :=
  ∀ (lp : Nat) (J Jx : List α → World → Prop) (W : World), Below w.heap.size w W → AbidesFrom W.heap.size J → AbidesFrom W.heap.size Jx →
    (∀ pre x W1, J pre W1 → T (pre, x) W1 → YieldAt F (n - 1) P lp (enc x) W1 fun e W' => (e = .returned (.bool true) ∧ J (pre ++ [x]) W' ∧ Below n₀ W1 W') ∨ (e = .returned (.bool false) ∧ Jx (pre ++ [x]) W')) →
    J [] W → CallsIn F n P g (#[.func (.yield lp) #[] #[]] ++ lb) W fun e W' => (∃ v, e = .returned v) ∧ ((∃ xs, S xs ∧ J xs W') ∨ (∃ pre, Sp pre ∧ Jx pre W'))
/-- How the body may be left. -/
def postT {α : Type} (n₀ : Nat) (I Ix : List α → World → Prop) (xs : List α) (W : World) : Exit → Act → World → Prop
  | .normal, _, W' => (KeepsOthers W W' ∧ Below n₀ W W') ∧ I xs W'
  | .ret, _, W' => KeepsOthers W W' ∧ Ix xs W'
  | _, _, _ => False

theorem loop_told {α : Type} {g : Operand} {ps : Array Tmp} {assign body : Code} {Q : Exit → Act → World → Prop} {a : Act} {w : World}
    (hro : F.round = none) (h1 : 1 ≤ n) {gf : Nat} {lb : Array Value} (hg : a.eval g = .func (.func gf) #[] lb) (hFg : F.fn gf) (eg : ∀ args w, (callFunc gf args).run P w = .ok (.enter gf args) w)
    {enc : α → Array Value} (hps : ∀ x, (enc x).size = ps.size) {n₀ : Nat} (hn₀ : n₀ ≤ w.heap.size) {T : List α × α → World → Prop} (hT : OwnFrom w.heap.size T) {S Sp : List α → Prop}
    (hseq : SeqTold F (n - 1) P gf lb enc n₀ T S Sp w) (I Ix : List α → World → Prop) (hI : OwnFrom w.heap.size I) (hIx : OwnFrom w.heap.size Ix) (h0 : I [] w) (a₁ : α → Act)
    (hassign : ∀ (l : Nat) (x : α) (W : World) (K : Act → World → Prop), K (a₁ x) W → assign.wpIn (F.inRound l) (n - 1 - 1) P (Exit.then K (fun _ _ _ => False)) { tmps := (ps.zip (enc x)).foldl (fun t (p, v) => t.setIfInBounds p v) a.tmps, defers := [] } W)
    (hbody : ∀ (l : Nat) (pre : List α) (x : α) (W : World), I pre W → T (pre, x) W → body.wpIn (F.inRound l) (n - 1 - 1) P (postT n₀ I Ix (pre ++ [x]) W) (a₁ x) W)
    (hdone : ∀ (D : Nat) (xs : List α) (W : World), w.heap.size ≤ D → S xs → I xs W → W.heap[D]? = some (.deferred (some [])) → Q .normal { a with defers := { target := .collected D, args := #[] } :: a.defers } W)
    (hstop : ∀ (D : Nat) (pre : List α) (W : World), w.heap.size ≤ D → Sp pre → Ix pre W → W.heap[D]? = some (.deferred (some [])) → Code.ret.wpIn F n P Q { a with defers := { target := .collected D, args := #[] } :: a.defers } W) :
    (Code.rangeFunc g ps assign body).wpIn F n P Q a w := by
  refine wpIn_rangeFunc fun fn hfn => ?_
  rw [hro]
  obtain ⟨D, hD⟩ : ∃ D, w.heap.size = D := ⟨_, rfl⟩
  obtain ⟨R, hR⟩ : ∃ R : LoopState → Option Code → Loop, ∀ st pe, R st pe = { state := st, pending := pe, fn, tmps := a.tmps, params := ps, assign, body, defers := D } := ⟨_, fun _ _ => rfl⟩
  obtain ⟨V, hV⟩ : ∃ V, (w.alloc (.deferred (some []))).alloc (.loop (R .ready none)) = V := ⟨_, rfl⟩
  have hbk : Booked D (R .ready none) V := by
    rw [← hV, ← hD]
    refine ⟨(Below.heap_alloc _ _ _ (by simp)).trans (World.alloc_heap_new w _), ?_⟩
    have := World.alloc_heap_new (w.alloc (.deferred (some []))) (.loop (R .ready none))
    rwa [World.size_alloc] at this
  have hIV : I [] V := by rw [← hV]; exact hI.alloc _ (hI.alloc _ h0)
  have hwV : Below w.heap.size w V := by rw [← hV]; exact ((Below.refl _ w).alloc (Nat.le_refl _) _).alloc (by simp) _
  have hentry := run_enterLoop_outer (P := P) (w := w) fn a.tmps ps assign body
  rw [hD, ← hR, hV] at hentry
  refine ⟨D + 1, [{ target := .collected D, args := #[] }], V, { target := .fn (.func gf) lb, args := #[.func (.yield (D + 1)) #[] #[]] }, V, gf, #[.func (.yield (D + 1)) #[] #[]] ++ lb, V, hentry, ?_, ?_, ?_, fun _ => h1, ?_⟩
  · simp only [resolve, hg]; simp [go_sem]
  · intro f' hf'
    simp [Target.leads] at hf'
    subst hf'; exact hFg
  · simp [invoke, go_sem, eg]
  have hDV := hbk.lt
  -- what the iterator turns is no cells and lies behind the books
  have hrow : ∀ {A : World} {row : Option Nat}, (∀ r, row = some r → V.heap.size ≤ r ∧ ∃ o : Obj, A.heap[r]? = some o ∧ o.isWalk = true) → ∀ r, row = some r → w.heap.size ≤ r ∧ ∃ o : Obj, A.heap[r]? = some o ∧ o.isCells = false := by
    intro A row h r e
    obtain ⟨h2, o, h3, h4⟩ := h r e
    exact ⟨by omega, o, h3, Obj.not_cells_of_walk h4⟩
  refine (hseq (D + 1) (fun pre W => I pre W ∧ Booked D (R .ready none) W) (fun pre W => Ix pre W ∧ Booked D (R .done (some .ret)) W) V hwV
    (fun s A B row hs hg' hr => ⟨hI s A B row hs.1 hg' (hrow hr), hs.2.grown hg' fun r e => (hr r e).2⟩)
    (fun s A B row hs hg' hr => ⟨hIx s A B row hs.1 hg' (hrow hr), hs.2.grown hg' fun r e => (hr r e).2⟩) ?_ ⟨hIV, hbk⟩).mono ?_
  · -- a round
    rintro pre x W ⟨hi, hb⟩ ht
    have hy := run_yield (P := P) (args := enc x) hb.2 (by rw [hR]; exact hps x)
    rw [hR] at hy
    have hbeg := run_beginRound (P := P) hb.2 (by rw [hR])
    have hb2 := hb.set { R .ready none with state := .busy }
    refine ⟨fn, _, assign, body, hy, roundIn_of_wpIn hfn (hassign _ x W _ ⟨_, hbeg, ?_⟩)⟩
    have hkW := hb.keeps (n₀ := n₀) (by omega) (.loop { R .ready none with state := .busy })
    refine wpIn_mono (hbody _ pre x _ (hI.putObj _ hi (by omega) hb.2 rfl) (hT.putObj _ ht (by omega) hb.2 rfl)) ?_
    rintro e a3 X hp
    cases e with
    | normal =>
      obtain ⟨⟨hk, hbl⟩, hi3⟩ := hp
      have hb3 := hb2.others hk
      have hend := run_endRound (P := P) none hb3.2
      have hb4 := hb3.set { (({ R .ready none with state := .busy } : Loop)) with state := .ready, pending := none }
      refine ⟨_, _, hend, .inl ⟨rfl, ⟨hI.putObj _ hi3 (by omega) hb3.2 rfl, ?_⟩, (hkW.trans hbl).trans (hb3.keeps (n₀ := n₀) (by omega) _)⟩⟩
      rw [hR] at hb4 ⊢
      exact hb4
    | ret =>
      obtain ⟨hk, hi3⟩ := hp
      have hb3 := hb2.others hk
      have hend := run_endRound (P := P) (some .ret) hb3.2
      have hb4 := hb3.set (R .done (some .ret))
      refine ⟨_, _, hend, .inr ⟨rfl, hIx.putObj _ hi3 (by omega) hb3.2 rfl, ?_⟩⟩
      simp only [hR] at hb4 ⊢
      exact hb4
    | exit id => exact hp.elim
    | goto t => exact hp.elim
    | panic ch => exact hp.elim
    | outgrown => exact hp.elim
  · -- behind the iterator
    rintro e X ⟨⟨v, rfl⟩, ⟨xs, hS, hi, hb⟩ | ⟨pre, hSp, hi, hb⟩⟩
    · have hend := run_endLoop (P := P) hb.2 (by rw [hR]; simp)
      rw [hR] at hend
      exact ⟨none, _, hend, hdone D xs _ (by omega) hS (hI.putObj _ hi (by omega) hb.2 rfl) ((World.putObj_heap_other (by omega)).trans hb.1)⟩
    · have hend := run_endLoop (P := P) hb.2 (by rw [hR]; simp)
      rw [hR] at hend
      exact ⟨some .ret, _, hend, hstop D pre _ (by omega) hSp (hIx.putObj _ hi (by omega) hb.2 rfl) ((World.putObj_heap_other (by omega)).trans hb.1)⟩
end
end Go.Proofs.YthdlihiehfkceaaDoor

namespace Go.Proofs.YthdlihiehfkceaaDoor
open Go.RowKit
set_option linter.unusedVariables false

/-- What the iterator tells of a line at its yield. -/
def ToldLn (l : List Tok) (n₀ : Nat) (p : List SlV × SlV) (W : World) : Prop := ∃ ln, (linesP l)[p.1.length]? = some ln ∧ W.ownsRow n₀ 58 5 p.2.1 ln.length (tokCells ln)
theorem drop_head {α : Type} {l : List α} {k : Nat} {x : α} {r : List α} (h : l.drop k = x :: r) : l[k]? = some x ∧ l.drop (k + 1) = r := by
  refine ⟨?_, ?_⟩
  · have := congrArg (·[0]?) h
    simpa [List.getElem?_drop] using this
  · rw [← List.drop_drop, h]; rfl
set_option maxRecDepth 100000 in
set_option maxHeartbeats 4000000 in
theorem lines1t_in (F : Fence) (nn : Nat) (hF : F.fn 55) (hro : F.round = none) (hn : 1 ≤ nn) (lp Bn n₀ : Nat) (l : List Tok) (A : Option Addr) (n c : Nat) (J Jx : List SlV → World → Prop)
    (W : World) (hJ : AbidesFrom W.heap.size J)
    (hY : ∀ pre x W1, J pre W1 → ToldLn l n₀ (pre, x) W1 → YieldAt F (nn - 1) Tryd.prog lp (slEnc x) W1 fun e W' =>
      (e = .returned (.bool true) ∧ J (pre ++ [x]) W' ∧ Below n₀ W1 W') ∨ (e = .returned (.bool false) ∧ Jx (pre ++ [x]) W'))
    (hn0 : n₀ ≤ W.heap.size) (hBn : W.cell? ⟨Bn, 0, none⟩ = some (.slice A n c)) (hL : RdT W n₀ A n l) (h48 : n ≤ 1000000) (h0 : J [] W) :
    CallsIn F nn Tryd.prog 55 #[.func (.yield lp) #[] #[], .pointer (some ⟨Bn, 0, none⟩)] W fun e W' => (∃ v, e = .returned v) ∧
      ((∃ ys : List SlV, ys.length = (linesP l).length ∧ J ys W') ∨ (∃ pre : List SlV, pre.length ≤ (linesP l).length ∧ Jx pre W')) := by
  obtain ⟨i0, hi0, hz0, hz1, hz2⟩ := info_parts info_tok
  have HLl := Lib.hid hL.tokLen
  have HL := Lib.hid hL
  have HJ := Lib.hid hJ
  have HY := Lib.hid hY
  clear hL hJ hY
  refine callsIn_of_wp Tryd.func55 rfl hF ?_ hro
  simp only [Tryd.ntmps55, List.size_toArray, List.length_cons, List.length_nil, Nat.reduceAdd, Nat.reduceSub, Array.replicate_succ, Array.replicate_zero, List.push_toArray, List.append_toArray, List.nil_append, List.cons_append]
  gi_wp2
  gi_loopw [8, 3, 5] (fun i lv _u wr => ∃ (k : Nat) (pre : List SlV) (cur : List Tok) (W0 : World), (k ≤ n ∧ i = .int .i64 k) ∧ Hid (J pre W0) ∧ Below W0.heap.size W0 wr ∧ (cur.length ≤ k ∧ wr.ownsRow W0.heap.size 58 5 lv cur.length (tokCells cur)) ∧ Below n₀ W wr ∧ Hid (W.heap.size ≤ W0.heap.size) ∧ Hid ((linesP l).drop pre.length = linesGo (l.drop k) cur ∧ pre.length ≤ (linesP l).length))
    (fun i _ _ _ => n - (intOf i).toNat)
  case atStart => exact ⟨0, [], [], W, ⟨by omega, rfl⟩, h0, Below.refl _ _, ⟨by simp, World.ownsRow_nil _ _ _ _⟩, Below.refl _ _, Nat.le_refl _, by show _ ∧ _; simp [linesP]⟩
  case round =>
    obtain ⟨k, pre, cur, W0, ⟨hk, rfl⟩, HJ0, hb0, ⟨hck, hown⟩, hbn, HWW, HS⟩ := hrel
    have HB0 := Lib.hid hb0
    have HBn := Lib.hid hbn
    have HO := Lib.hid hown
    have hsz0 := hb0.size
    obtain ⟨Al, cl, rfl, hcl, _⟩ := Rd.of_own_cap hown
    have HJr : Hid (J pre wr) := HJ.out pre W0 wr none HJ0.out (grown_of_below hb0) (fun r e => by cases e)
    clear hb0 hbn hown
    by_cases hlt : k < n
    · obtain ⟨b0, o0, t, hA, hbB, ht, c0, c1, c2, c3, c4⟩ := (HL.out.below HBn.out).tokAt hlt
      subst hA
      have HD := Lib.hid (tdrop_at ht)
      rw [HD.out, linesGo_cons] at HS
      clear ht
      obtain ⟨kind, text, num, at_, line⟩ := t
      simp only at c0 c1 c2 c3 c4
      by_cases h3 : kind = 3
      · subst h3
        rw [if_pos rfl] at HS
        obtain ⟨x, hx, hx1⟩ : ∃ x : SlV, slEnc x = #[.slice Al cur.length cl] ∧ x.1 = .slice Al cur.length cl := ⟨⟨.slice Al cur.length cl, _, _, _, rfl⟩, rfl, rfl⟩
        have HX := Lib.hid hx
        obtain ⟨hd1, hd2⟩ := drop_head HS.out.1
        have HS3 : Hid ((linesP l).drop (pre.length + 1) = linesGo (l.drop (k + 1)) [] ∧ pre.length + 1 ≤ (linesP l).length) := ⟨hd2, (List.getElem?_eq_some_iff.1 hd1).1⟩
        have HTo : Hid (∀ o : Obj, ToldLn l n₀ (pre, x) (wr.alloc o)) := fun o => ⟨cur, hd1, by show (wr.alloc o).ownsRow n₀ _ 5 x.1 _ _; rw [hx1]; exact own_base (HO.out.alloc o) (Nat.le_trans hn0 HWW.out)⟩
        clear hd1 hd2 hx1
        have HJa : Hid (∀ o : Obj, J pre (wr.alloc o)) := fun o => HJ.out pre W0 (wr.alloc o) none HJ0.out (grown_of_below (HB0.out.alloc hsz0 o)) (fun r e => by cases e)
        have HYa := fun o : Obj => HY.out pre x (wr.alloc o) (HJa.out o) (HTo.out o)
        rw [hx] at HYa
        obtain ⟨fn, tmps, assign, body, hy, hR⟩ := HYa (.cells #[.int .i64 3, .string text, .int .u64 num, .int .i64 at_, .int .i64 line] 58)
        have HBb : Hid (Below n₀ W (wr.alloc (.cells #[.int .i64 3, .string text, .int .u64 num, .int .i64 at_, .int .i64 line] 58))) := HBn.out.alloc (by have := HBn.out.size; omega) _
        have HZb : Hid (W.heap.size ≤ (wr.alloc (.cells #[.int .i64 3, .string text, .int .u64 num, .int .i64 at_, .int .i64 line] 58)).heap.size) := by have := HWW.out; show _ ≤ _; simp; omega
        clear hx HYa
        gi_wp2
        refine hR.mono ?_
        rintro e W3 (⟨rfl, hJ3, hk3⟩ | ⟨rfl, hJx3⟩)
        · have HJ3 := Lib.hid hJ3
          have HK3 := Lib.hid (HBb.out.trans hk3)
          have HZ3 : Hid (W.heap.size ≤ W3.heap.size) := Nat.le_trans HZb.out hk3.size
          clear hJ3 hk3
          gi_wp2
          go_roundw
          case rel => exact ⟨k + 1, pre ++ [x], [], W3, ⟨by omega, by go_num⟩, HJ3, Below.refl _ _, ⟨by simp, World.ownsRow_nil _ _ _ _⟩, HK3.out, HZ3, by show _ ∧ _; rw [List.length_append]; exact HS3.out⟩
          case measure => simp [intOf]; omega
        · have HJx3 := Lib.hid hJx3
          clear hJx3
          gi_wp2
          refine bodyPost_ret (results_none rfl _ _ _) rfl ?_
          exact ⟨⟨_, rfl⟩, .inr ⟨pre ++ [x], by rw [List.length_append]; exact HS3.out.2, HJx3.out⟩⟩
      · have hb3 : (kind != 3) = true := by simpa using h3
        rw [if_neg h3] at HS
        have HN : Hid (∀ o : Obj, RdT ((wr.alloc o).alloc (.cells #[.int .i64 kind, .string text, .int .u64 num, .int .i64 at_, .int .i64 line] 58)) (wr.heap.size + 1 + 1) (some ⟨wr.heap.size + 1, 0, none⟩) 1 [⟨kind, text, num, at_, line⟩]) := fun o => Rd.newAt (wr.alloc o) _ _ _ (by simp) (size := 5) (m := 1) rfl (by simp [maxLen])
        gi_wp2_with (gi_at_builtin; refine wpListIn_append_own _ rfl (.tmp 15) (.tmp 17) 56 rfl W0.heap.size 58 i0 _ 5 48 Tryd.underlying56 hi0 hz0 hz1 hz2 rfl (by decide) _ cur.length (tokCells cur) rfl ?c1 ⟨wr.heap.size + 1, 0, none⟩ 1 1 (tokCells [⟨kind, text, num, at_, line⟩]) ?c2 ?c3 ?c4 (tokCells_one _) ?c5 ?c6 ?c7 ?_)
        case c1 => exact (HO.out.alloc _).alloc _
        case c2 => rfl
        case c3 => rfl
        case c4 => exact rd_cells _ (HN.out _) (by decide)
        case c5 => simp only [maxLen]; omega
        case c6 => omega
        case c7 => simp; omega
        intro v5 w5 hown5 hg5 _
        rw [← tokCells_append] at hown5
        have HO5 := Lib.hid hown5
        have HB5 := Lib.hid (below_own ((HB0.out.alloc hsz0 _).alloc (by simp; omega) _) ((HO.out.alloc _).alloc _) hg5 (Nat.le_refl _) (by simp; omega))
        have HB6 := Lib.hid (below_own ((HBn.out.alloc (by have := HBn.out.size; omega) _).alloc (by have := HBn.out.size; simp; omega) _) ((HO.out.alloc _).alloc _) hg5 (Nat.le_trans hn0 HWW.out) (by have := HBn.out.size; simp; omega))
        clear hown5 hg5
        gi_wp2
        go_roundw
        case rel => exact ⟨k + 1, pre, cur ++ [⟨kind, text, num, at_, line⟩], W0, ⟨by omega, by go_num⟩, HJ0, HB5.out, ⟨by simp; omega, by simpa using HO5.out⟩, HB6.out, HWW, HS⟩
        case measure => simp [intOf]; omega
    · obtain rfl : n = k := by omega
      rw [List.drop_of_length_le (l := l) (by rw [HLl.out]; exact Nat.le_refl _)] at HS
      by_cases hc0 : 0 < cur.length
      · obtain ⟨x, hx, hx1⟩ : ∃ x : SlV, slEnc x = #[.slice Al cur.length cl] ∧ x.1 = .slice Al cur.length cl := ⟨⟨.slice Al cur.length cl, _, _, _, rfl⟩, rfl, rfl⟩
        have hne : cur ≠ [] := by intro e; rw [e] at hc0; simp at hc0
        have hdd := HS.out.1
        rw [linesGo, if_neg hne] at hdd
        obtain ⟨hd1, hd2⟩ := drop_head hdd
        have hS : pre.length + 1 = (linesP l).length := by
          have h1 := (List.getElem?_eq_some_iff.1 hd1).1
          have h2 := congrArg List.length hd2
          rw [List.length_drop] at h2
          simp at h2
          omega
        have hYa := HY.out pre x wr HJr.out ⟨cur, hd1, by show wr.ownsRow n₀ _ 5 x.1 _ _; rw [hx1]; exact own_base HO.out (Nat.le_trans hn0 HWW.out)⟩
        clear hdd hd1 hd2 hx1
        rw [hx] at hYa
        obtain ⟨fn, tmps, assign, body, hy, hR⟩ := hYa
        have HS2 := Lib.hid hS
        clear hx hS hne
        gi_wp2
        refine hR.mono ?_
        rintro e W3 (⟨rfl, hJ3, hk3⟩ | ⟨rfl, hJx3⟩)
        · have HJ3 := Lib.hid hJ3
          clear hJ3 hk3
          gi_wp2
          go_end0
          exact ⟨⟨_, rfl⟩, .inl ⟨pre ++ [x], by simp; exact HS2.out, HJ3.out⟩⟩
        · have HJx3 := Lib.hid hJx3
          clear hJx3
          gi_wp2
          go_end0
          exact ⟨⟨_, rfl⟩, .inr ⟨pre ++ [x], by simp; have := HS2.out; omega, HJx3.out⟩⟩
      · obtain rfl : cur = [] := by
          rcases cur with _ | ⟨a, r⟩
          · rfl
          · simp at hc0
        have hS : pre.length = (linesP l).length := by
          have := congrArg List.length HS.out.1
          rw [linesGo, if_pos rfl, List.length_drop] at this
          have h2 := HS.out.2
          simp at this
          omega
        have HS2 := Lib.hid hS
        clear hS
        gi_wp2
        go_end0
        exact ⟨⟨_, rfl⟩, .inl ⟨pre, HS2.out, HJr.out⟩⟩
end Go.Proofs.YthdlihiehfkceaaDoor

namespace Go.Proofs.YthdlihiehfkceaaDoor
open Go.RowKit
set_option linter.unusedVariables false
attribute [local go_sem] Oper.semAt_some

theorem row_others {W W' : World} {row : Option Nat} {base : Nat} {e : TypeId} {size n : Nat} {v : Value} {xs : List Value} (h : W.ownsRow base e size v n xs) (hg : W.grownBy W' row) (hr : ∀ r, row = some r → ∃ o : Obj, W.heap[r]? = some o ∧ o.isCells = false) : W'.ownsRow base e size v n xs := by
  refine h.kept hg ?_
  cases hv : v.ownBlock with
  | none => exact .inl rfl
  | some b =>
    refine .inr fun e2 => ?_
    obtain ⟨c, fz, hb⟩ := own_row h hv
    obtain ⟨o, ho, hc⟩ := hr b e2.symm
    rw [hb] at ho; cases ho; cases hc
theorem told_own (l : List Tok) (n₀ : Nat) {B : Nat} : OwnFrom B (ToldLn l n₀) := fun p W W' row h hg hr => by
  obtain ⟨ln, h1, h2⟩ := h
  exact ⟨ln, h1, row_others h2 hg (fun r e => (hr r e).2)⟩
/-- The lines that have come, as they lie. -/
def Lns (l : List Tok) (n₀ : Nat) (pre : List SlV) (W : World) : Prop := ∀ (i : Nat) (x : SlV), pre[i]? = some x → ∃ ln, (linesP l)[i]? = some ln ∧ W.ownsRow n₀ 58 5 x.1 ln.length (tokCells ln)
theorem Lns.kept {l : List Tok} {n₀ : Nat} {pre : List SlV} {W W' : World} {row : Option Nat} (h : Lns l n₀ pre W) (hg : W.grownBy W' row) (hr : ∀ g cs fz, row = some g → W.heap[g]? = some (.cells cs 58 fz) → False) : Lns l n₀ pre W' := fun i x hx => by
  obtain ⟨ln, h1, h2⟩ := h i x hx
  refine ⟨ln, h1, h2.kept hg ?_⟩
  cases hv : x.1.ownBlock with
  | none => exact .inl rfl
  | some b =>
    refine .inr fun e2 => ?_
    obtain ⟨c, fz, hb⟩ := own_row h2 hv
    exact hr b c fz e2.symm hb
theorem Lns.snoc {l : List Tok} {n₀ : Nat} {pre : List SlV} {x : SlV} {W : World} (h : Lns l n₀ pre W) (ht : ToldLn l n₀ (pre, x) W) : Lns l n₀ (pre ++ [x]) W := fun i y hy => by
  by_cases hi : i < pre.length
  · rw [List.getElem?_append_left hi] at hy
    exact h i y hy
  · rw [List.getElem?_append_right (by omega)] at hy
    have hi0 : i - pre.length = 0 := by
      by_cases h0 : i - pre.length = 0
      · exact h0
      · rw [List.getElem?_eq_none (by simp; omega)] at hy; cases hy
    rw [hi0] at hy
    obtain rfl : x = y := by simpa using hy
    obtain rfl : i = pre.length := by omega
    exact ht
theorem lns_own (l : List Tok) (n₀ B : Nat) : OwnFrom B (Lns l n₀) := fun pre W W' row h hg hr => h.kept hg (fun g c fz e hc => by
  obtain ⟨_, o, ho, hcl⟩ := hr g e
  rw [hc] at ho; cases ho; cases hcl)
theorem Rd.zero (w : World) (B size : Nat) (A : Option Addr) : Rd w B size A 0 [] := ⟨by simp, by simp [maxLen], fun h => by omega⟩
theorem lines_told (F : Fence) (nn : Nat) (hF : F.fn 55) (hro : F.round = none) (hn : 1 ≤ nn) (Bn n₀ : Nat) (l : List Tok) (A : Option Addr) (n c : Nat) (w : World)
    (hn0 : n₀ ≤ w.heap.size) (hBn0 : Bn < w.heap.size) (hc : w.cell? ⟨Bn, 0, none⟩ = some (.slice A n c)) (hL : RdT w n₀ A n l) (h48 : n ≤ 1000000) :
    SeqTold F nn Tryd.prog 55 #[.pointer (some ⟨Bn, 0, none⟩)] slEnc n₀ (ToldLn l n₀) (fun ys => ys.length = (linesP l).length) (fun pre => pre.length ≤ (linesP l).length) w := fun lp J Jx W hW hJ _ hY h0 =>
  lines1t_in F nn hF hro hn lp Bn n₀ l A n c J Jx W hJ hY (Nat.le_trans hn0 hW.size) ((hW.cell (p := ⟨Bn, 0, none⟩) hBn0).trans hc) (hL.below (hW.mono hn0)) h48 h0
def LinesPost2 (l : List Tok) (most : Int) (w : World) (e : Ending) (w' : World) : Prop :=
  ∃ A' c' xs, e = .returned (.slice A' xs.length c') ∧ (xs.length : Int) = keptLines l most ∧ Rd w' w'.heap.size 1 A' xs.length (xs.map (·.1)) ∧ Lns l w.heap.size xs w' ∧ Below w.heap.size w w'

end Go.Proofs.YthdlihiehfkceaaDoor

namespace Go.Proofs.YthdlihiehfkceaaDoor
open Go.RowKit
set_option linter.unusedVariables false

/-- What comes of the run that is open at the text's end. -/
def lexEnd (s : ByteArray) (st : LSt) : List Tok × Int × Int := match shutP s s.size st with
  | (p, e, st1) => if e ≠ 0 then ([], p, e) else (st1.list, 0, 0)
theorem lexGo_done {s : ByteArray} {f pos : Nat} {st : LSt} (hp : ¬ pos < s.size) : lexGo s (f + 1) pos st = lexEnd s st := by rw [lexGo, if_neg hp]; rfl
/-- Bytes that stand in a run wherever they are. -/
def runByte (c : UInt8) : Bool := isLetter c.toNat || isDigit c.toNat
theorem runByte_small {c : UInt8} (h : runByte c = true) : c.toNat < 128 := by
  simp only [runByte, isLetter, isDigit, Bool.or_eq_true, decide_eq_true_eq] at h
  omega
theorem rune_in {s : ByteArray} {pos a : Nat} {st : LSt} (c : UInt8) (hc : runByte c = true) (hr : st.remark = false) (hf : st.from_ = some a) : runeP s pos c.toNat st = (0, 0, st) := by
  rw [runeP_in (by simp only [inRun]; simp only [runByte] at hc; rw [hc]; rfl) hr, hf]; rfl
theorem rune_first {s : ByteArray} {pos : Nat} {st : LSt} (c : UInt8) (hc : runByte c = true) (hr : st.remark = false) (hf : st.from_ = none) : runeP s pos c.toNat st = (0, 0, { st with from_ := some pos }) := by
  rw [runeP_in (by simp only [inRun]; simp only [runByte] at hc; rw [hc]; rfl) hr, hf]; rfl
theorem lexGo_run (s : ByteArray) : ∀ (m f pos a : Nat) (st : LSt), pos + m ≤ s.size → m ≤ f → (∀ k (h : k < s.size), pos ≤ k → k < pos + m → runByte s[k] = true) → st.remark = false → st.from_ = some a →
    lexGo s f pos st = lexGo s (f - m) (pos + m) st
  | 0, f, pos, a, st, _, _, _, _, _ => by simp
  | m + 1, f, pos, a, st, h1, h2, hall, hr, hf => by
    obtain ⟨f, rfl⟩ : ∃ f', f = f' + 1 := ⟨f - 1, by omega⟩
    have hp : pos < s.size := by omega
    have hc := hall pos hp (Nat.le_refl _) (by omega)
    have hd := decode_ascii s pos hp (runByte_small hc)
    rw [lexGo_step hp hd (rune_in _ hc hr hf), if_neg (by simp)]
    rw [lexGo_run s m f (pos + 1) a st (by omega) (by omega) (fun k h h3 h4 => hall k h (by omega) (by omega)) hr hf]
    congr 1 <;> omega
theorem lexGo_open (s : ByteArray) (m f pos : Nat) (st : LSt) (h0 : 0 < m) (h1 : pos + m ≤ s.size) (h2 : m ≤ f) (hall : ∀ k (h : k < s.size), pos ≤ k → k < pos + m → runByte s[k] = true) (hr : st.remark = false) (hf : st.from_ = none) :
    lexGo s f pos st = lexGo s (f - m) (pos + m) { st with from_ := some pos } := by
  obtain ⟨f, rfl⟩ : ∃ f', f = f' + 1 := ⟨f - 1, by omega⟩
  have hp : pos < s.size := by omega
  have hc := hall pos hp (Nat.le_refl _) (by omega)
  have hd := decode_ascii s pos hp (runByte_small hc)
  rw [lexGo_step hp hd (rune_first _ hc hr hf), if_neg (by simp)]
  rw [lexGo_run s (m - 1) f (pos + 1) pos { st with from_ := some pos } (by omega) (by omega) (fun k h h3 h4 => hall k h (by omega) (by omega)) hr rfl]
  congr 1 <;> omega
theorem lex_run (s : ByteArray) (h1 : 0 < s.size) (hs : s.size ≤ 65536) (hall : ∀ k (h : k < s.size), runByte s[k] = true) : lexP s = lexEnd s { list := [], line := 0, from_ := some 0, remark := false } := by
  rw [lexP, if_neg (by omega), lexGo_open s s.size (s.size + 1) 0 _ h1 (by omega) (by omega) (fun k h _ _ => hall k h) rfl rfl]
  rw [show s.size + 1 - s.size = 0 + 1 by omega, lexGo_done (by omega)]
theorem extract_all (s : ByteArray) : s.extract 0 s.size = s := by
  apply ByteArray.ext
  rw [ByteArray.data_extract]
  exact Array.extract_size
/-- A text that is one run, digit ahead. -/
theorem lex_number (s : ByteArray) (h1 : 0 < s.size) (hs : s.size ≤ 65536) (hall : ∀ k (h : k < s.size), runByte s[k] = true) (hd : headIs s = true) :
    lexP s = match numP s.data.toList with
      | none => ([], 0, 22)
      | some n => ([⟨1, ⟨#[]⟩, n, 0, 0⟩], 0, 0) := by
  rw [lex_run s h1 hs hall, lexEnd, shutP_some rfl (extract_all s), if_pos hd]
  cases h : numP s.data.toList with
  | none => simp
  | some n => simp [putP]

theorem dec_digits (u : Nat) : ∀ c ∈ Lib.decDigits u, 48 ≤ c.toNat ∧ c.toNat ≤ 57 := by
  induction u using Nat.strongRecOn with
  | _ u ih =>
    intro c hc
    by_cases h : u < 10
    · rw [Lib.decDigits, dif_pos h] at hc
      obtain rfl := List.mem_singleton.1 hc
      rw [UInt8.toNat_ofNat']; omega
    · rw [Lib.decDigits, dif_neg h] at hc
      rcases List.mem_append.1 hc with h1 | h1
      · exact ih (u / 10) (by omega) c h1
      · obtain rfl := List.mem_singleton.1 h1
        rw [UInt8.toNat_ofNat']; omega
theorem dec_head (u : Nat) : ∃ c r, Lib.decDigits u = c :: r ∧ (1 ≤ u → c ≠ 48) ∧ (u < 10 → r = []) := by
  induction u using Nat.strongRecOn with
  | _ u ih =>
    by_cases h : u < 10
    · refine ⟨UInt8.ofNat (48 + u), [], by rw [Lib.decDigits, dif_pos h], fun h1 e => ?_, fun _ => rfl⟩
      have := congrArg UInt8.toNat e
      rw [UInt8.toNat_ofNat'] at this
      have h48 : (48 : UInt8).toNat = 48 := rfl
      omega
    · obtain ⟨c, r, he, h1, _⟩ := ih (u / 10) (by omega)
      exact ⟨c, r ++ [UInt8.ofNat (48 + u % 10)], by rw [Lib.decDigits, dif_neg h, he]; rfl, fun _ => h1 (by omega), fun h' => absurd h' h⟩
theorem isDigit_of {c : UInt8} (h : 48 ≤ c.toNat ∧ c.toNat ≤ 57) : isDigit c.toNat = true := by simp [isDigit, h]
theorem numGo_dec (u : Nat) (hu : u < 18446744073709551616) (r : List UInt8) : numGo (Lib.decDigits u ++ r) 0 = numGo r u := by
  induction u using Nat.strongRecOn generalizing r with
  | _ u ih =>
    have step : ∀ (m d : Nat) (r : List UInt8), d < 10 → 10 * m + d < 18446744073709551616 → numGo (UInt8.ofNat (48 + d) :: r) m = numGo r (10 * m + d) := by
      intro m d r hd hm
      have e : (UInt8.ofNat (48 + d)).toNat = 48 + d := by rw [UInt8.toNat_ofNat']; omega
      rw [numGo, e, if_pos (by simp [isDigit]; omega), if_neg (by omega), show 48 + d - 48 = d by omega]
    by_cases h : u < 10
    · rw [Lib.decDigits, dif_pos h, List.singleton_append, step 0 u r h (by omega)]
      congr 1; omega
    · rw [Lib.decDigits, dif_neg h, List.append_assoc, ih (u / 10) (by omega) (by omega), List.singleton_append, step (u / 10) (u % 10) r (by omega) (by omega)]
      congr 1; omega
theorem numP_dec (u : Nat) (hu : u < 18446744073709551616) : numP (Lib.decDigits u) = some u := by
  obtain ⟨c, r, he, h1, h2⟩ := dec_head u
  have hn : ¬ (1 < (Lib.decDigits u).length ∧ (Lib.decDigits u)[0]? = some 48) := by
    rintro ⟨hl, h0⟩
    rw [he] at hl h0
    obtain rfl : c = 48 := by simpa using h0
    by_cases h : u < 10
    · rw [h2 h] at hl; simp at hl
    · exact h1 (by omega) rfl
  rw [numP, if_neg hn]
  have := numGo_dec u hu []
  rwa [List.append_nil] at this
end Go.Proofs.YthdlihiehfkceaaDoor
