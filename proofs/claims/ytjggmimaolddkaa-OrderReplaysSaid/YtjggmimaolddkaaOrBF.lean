import Derived.Test.YtjggmimaolddkaaOrBE
namespace Go.Proofs.Ytjggmimaolddkaa
open Go.RowKit
set_option linter.unusedVariables false
set_option linter.unusedSimpArgs false
theorem RVIn.setW {w : World} {B : Nat} {c : RR} {r : MRun} (h : RVIn w B c r) (x : Int) : RVIn w B { c with writes := x } { r with writes := x } :=
 ⟨⟨h.sz.1, h.sz.2⟩, h.roots, h.regs, h.pc, h.steps, rfl, h.ended, h.val, h.err, h.box, h.news, h.pick, h.few⟩
theorem RVIn.setReg {w : World} {B : Nat} {c : RR} {r : MRun} (h : RVIn w B c r) (k : Nat) (x : Int) : RVIn w B { c with regs := c.regs.set k x } { r with regs := r.regs.set k x } :=
 ⟨⟨h.sz.1, by simpa using h.sz.2⟩, h.roots, by show c.regs.set k x = _; rw [h.regs], h.pc, h.steps, h.writes, h.ended, h.val, h.err, h.box, h.news, h.pick, h.few⟩
theorem RVIn.setRoot {w : World} {B : Nat} {c : RR} {r : MRun} (h : RVIn w B c r) (k : Nat) (x : Int) : RVIn w B { c with roots := c.roots.set k x } { r with st := { r.st with roots := r.st.roots.set k x } } :=
 ⟨⟨by simpa using h.sz.1, h.sz.2⟩, by show c.roots.set k x = _; rw [h.roots], h.regs, h.pc, h.steps, h.writes, h.ended, h.val, h.err, h.box, h.news, h.pick, h.few⟩
theorem RVIn.setBox {w : World} {B : Nat} {c : RR} {r : MRun} (h : RVIn w B c r) {A : Option Addr} {n k : Nat} {l : List PBox} {f : Int → Option (List Int)} (hx : RdX w B A n l) (hb : BX f l) (hf : Few64 { r.st with blocks := f }) :
 RVIn w B { c with bv := .slice A n k } { r with st := { r.st with blocks := f } } :=
 ⟨⟨h.sz.1, h.sz.2⟩, h.roots, h.regs, h.pc, h.steps, h.writes, h.ended, h.val, h.err, ⟨A, n, k, l, rfl, hx, hb⟩, h.news, h.pick, hf⟩
theorem BkC.setW {w : World} {g : Nat} {c : RR} (h : BkC w g c) (x : Int) : BkC (w.setCell ⟨g, 35, none⟩ (.int .i64 x)) g { c with writes := x } := h.setAny (RR.set_writes h.sz x) h.sz.1 h.sz.2
theorem BkC.setReg {w : World} {g : Nat} {c : RR} (h : BkC w g c) {k : Nat} (hk : k < 16) (x : Int) : BkC (w.setCell ⟨g, 18 + k, none⟩ (.int .u64 x)) g { c with regs := c.regs.set k x } := h.setAny (RR.set_reg h.sz hk x) h.sz.1 (by simpa using h.sz.2)
theorem BkC.setRoot {w : World} {g : Nat} {c : RR} (h : BkC w g c) {k : Nat} (hk : k < 16) (x : Int) : BkC (w.setCell ⟨g, k, none⟩ (.int .u64 x)) g { c with roots := c.roots.set k x } := h.setAny (RR.set_root h.sz hk x) (by simpa using h.sz.1) h.sz.2
theorem few_set {s : MSt} (h : Few64 s) {x : Int} {v : List Int} (hx : s.blocks x = some v) (u : List Int) : Few64 { s with blocks := upd s.blocks x (some u) } := by
 intro y hy
 by_cases e : y = x
 ·subst e; exact h y (by rw [hx]; rfl)
 ·refine h y ?_
  simpa [upd, e] using hy
theorem few_del {s : MSt} (h : Few64 s) (x : Int) : Few64 { s with blocks := upd s.blocks x none } := by
 intro y hy
 by_cases e : y = x
 ·subst e; simp [upd] at hy
 ·refine h y ?_
  simpa [upd, e] using hy
theorem RdX.word {w : World} {B n : Nat} {A : Option Addr} {l : List PBox} (h : RdX w B A n l) {k : Nat} {x : Int} {ws : List Int} (hk : l[k]? = some ⟨x, ws⟩) :
 k < n ∧ ∃ b o, A = some ⟨b, o, none⟩ ∧ b < B ∧ ∀ j, j < 8 → w.cell? ⟨b, o + k * 9 + 1 + j, none⟩ = some (.int .u64 (ws.getD j 0)) := by
 have hkl : k < l.length := (List.getElem?_eq_some_iff.1 hk).1
 have hkn : k < n := by rw [← h.len]; exact hkl
 have h8 : ws.length = 8 := (h.ok _ (List.mem_of_getElem? hk)).2
 obtain ⟨b, o, e, hb, hc⟩ := h.rd.at_ (by omega)
 refine ⟨hkn, b, o, e, hb, fun j hj => ?_⟩
 rw [show o + k * 9 + 1 + j = o + (k * 9 + (j + 1)) by omega]
 refine hc _ _ ?_
 rw [flat_nine (fun b hb => (h.ok b hb).2) hk (j + 1) (by omega)]
 have hj8 : j < ws.length := by omega
 simp [PBox.cells, u64s, hj8]
theorem RdX.words {w : World} {B n b o : Nat} {l : List PBox} {k : Nat} {x : Int} {ws : List Int} (h : RdX w B (some ⟨b, o, none⟩) n l) (hk : l[k]? = some ⟨x, ws⟩) : w.rangeAt b (o + k * 9 + 1) (u64s ws) := by
 obtain ⟨_, b', o', e, _, hc⟩ := h.word hk
 injection e with e
 injection e with e1 e2 _
 subst e1 e2
 have h8 : ws.length = 8 := (h.ok _ (List.mem_of_getElem? hk)).2
 intro j v hv
 have hj : j < 8 := by
  have := (List.getElem?_eq_some_iff.1 hv).1
  simpa [h8] using this
 rw [hc j hj, ← hv]
 have hj8 : j < ws.length := by omega
 simp [u64s, hj8]
theorem writes_at (op n : Int) (w : World) (h : writesOf op = n) : Calls Try.prog 73 #[.int .i64 op] w fun e w' => e = .returned (.int .i64 n) ∧ w = w' := by
 rw [← h]; exact writes_any op w
def touch17 (maxw : Int) (i : Ins) (r : MRun) : MRun := match doP [] maxw i r with
 | (e, r') => if e = 0 then r' else { r' with code := e }
theorem touch_bad {maxw e : Int} {i : Ins} {r r' : MRun} (h : doP [] maxw i r = (e, r')) (he : e ≠ 0) : touch17 maxw i r = { r' with code := e } := by
 unfold touch17; rw [h]; exact if_neg he
theorem touch_good {maxw : Int} {i : Ins} {r r' : MRun} (h : doP [] maxw i r = (0, r')) : touch17 maxw i r = r' := by
 unfold touch17; rw [h]; exact if_pos rfl
theorem do_args {maxw : Int} {i : Ins} {r : MRun} (args : List Int) (h : 9 ≤ i.op ∧ i.op ≤ 16) : doP args maxw i r = doP [] maxw i r := by
 obtain ⟨op, a, b, c, m⟩ := i
 simp only at h
 have : op = 9 ∨ op = 10 ∨ op = 11 ∨ op = 12 ∨ op = 13 ∨ op = 14 ∨ op = 15 ∨ op = 16 := by omega
 rcases this with rfl | rfl | rfl | rfl | rfl | rfl | rfl | rfl <;> simp [doP]
section
variable {maxw a b c m : Int} {r : MRun}
theorem d9_bad (h : 16 ≤ r.reg b) : touch17 maxw ⟨9, a, b, c, m⟩ r = { r with code := 44 } := touch_bad (r' := r) (by simp [doP, rootP, h]) (by decide)
theorem d9_ok (h : ¬ 16 ≤ r.reg b) : touch17 maxw ⟨9, a, b, c, m⟩ r = { r with regs := r.regs.set a.toNat (r.st.roots.getD (r.reg b).toNat 0) } := touch_good (by simp [doP, rootP, h, MRun.put])
theorem d10_bad (h : 16 ≤ r.reg b) : touch17 maxw ⟨10, a, b, c, m⟩ r = { r with code := 44 } := touch_bad (r' := r) (by simp [doP, rootP, h]) (by decide)
theorem d10_poor (h : ¬ 16 ≤ r.reg b) (hp : maxw - r.writes < 1) : touch17 maxw ⟨10, a, b, c, m⟩ r = { r with code := 42 } := touch_bad (r' := r) (by simp [doP, rootP, h, payP, writesOf, hp]) (by decide)
theorem d10_ok (h : ¬ 16 ≤ r.reg b) (hp : ¬ maxw - r.writes < 1) : touch17 maxw ⟨10, a, b, c, m⟩ r = { r with writes := r.writes + 1, st := { r.st with roots := r.st.roots.set (r.reg b).toNat (r.reg a) } } := touch_good (by simp [doP, rootP, h, payP, writesOf, hp])
theorem dw_none {op : Int} (ho : op = 11 ∨ op = 12 ∨ op = 13 ∨ op = 14) (h : r.st.blocks (r.reg b) = none) : touch17 maxw ⟨op, a, b, c, m⟩ r = { r with code := 44 } := touch_bad (r' := r) (by rcases ho with rfl | rfl | rfl | rfl <;> simp [doP, wordP, h]) (by decide)
theorem dw_far {op : Int} {ws : List Int} (ho : op = 11 ∨ op = 12 ∨ op = 13 ∨ op = 14) (h : r.st.blocks (r.reg b) = some ws) (hw : 8 ≤ wordOf ⟨op, a, b, c, m⟩ r.regs) : touch17 maxw ⟨op, a, b, c, m⟩ r = { r with code := 44 } := touch_bad (r' := r) (by
 have hw' : 8 ≤ wordAt ⟨op, a, b, c, m⟩ r := hw
 rcases ho with rfl | rfl | rfl | rfl <;> simp [doP, wordP, h, hw']) (by decide)
theorem dr_ok {op : Int} {ws : List Int} (ho : op = 11 ∨ op = 12) (h : r.st.blocks (r.reg b) = some ws) (hw : ¬ 8 ≤ wordOf ⟨op, a, b, c, m⟩ r.regs) : touch17 maxw ⟨op, a, b, c, m⟩ r = { r with regs := r.regs.set a.toNat (ws.getD (wordOf ⟨op, a, b, c, m⟩ r.regs).toNat 0) } := touch_good (by
 have hw' : ¬ 8 ≤ wordAt ⟨op, a, b, c, m⟩ r := hw
 rw [show wordOf ⟨op, a, b, c, m⟩ r.regs = wordAt ⟨op, a, b, c, m⟩ r from rfl]
 rcases ho with rfl | rfl <;> simp [doP, wordP, h, hw', MRun.put])
theorem ds_poor {op : Int} {ws : List Int} (ho : op = 13 ∨ op = 14) (h : r.st.blocks (r.reg b) = some ws) (hw : ¬ 8 ≤ wordOf ⟨op, a, b, c, m⟩ r.regs) (hp : maxw - r.writes < 1) : touch17 maxw ⟨op, a, b, c, m⟩ r = { r with code := 42 } := touch_bad (r' := r) (by
 have hw' : ¬ 8 ≤ wordAt ⟨op, a, b, c, m⟩ r := hw
 rcases ho with rfl | rfl <;> simp [doP, wordP, h, hw', payP, writesOf, hp]) (by decide)
theorem ds_ok {op : Int} {ws : List Int} (ho : op = 13 ∨ op = 14) (h : r.st.blocks (r.reg b) = some ws) (hw : ¬ 8 ≤ wordOf ⟨op, a, b, c, m⟩ r.regs) (hp : ¬ maxw - r.writes < 1) : touch17 maxw ⟨op, a, b, c, m⟩ r = { r with writes := r.writes + 1, st := { r.st with blocks := upd r.st.blocks (r.reg b) (some (ws.set (wordOf ⟨op, a, b, c, m⟩ r.regs).toNat (r.reg a))) } } := touch_good (by
 have hw' : ¬ 8 ≤ wordAt ⟨op, a, b, c, m⟩ r := hw
 rw [show wordOf ⟨op, a, b, c, m⟩ r.regs = wordAt ⟨op, a, b, c, m⟩ r from rfl]
 rcases ho with rfl | rfl <;> simp [doP, wordP, h, hw', payP, writesOf, hp])
theorem d15_poor (hp : maxw - r.writes < 9) : touch17 maxw ⟨15, a, b, c, m⟩ r = { r with code := 42 } := touch_bad (r' := r) (by simp [doP, freshP, payP, writesOf, hp]) (by decide)
theorem d15_ok (hp : ¬ maxw - r.writes < 9) : touch17 maxw ⟨15, a, b, c, m⟩ r = fresh17 ⟨15, a, b, c, m⟩ { r with writes := r.writes + 9 } := by
 have hpay : payP maxw 15 r = some { r with writes := r.writes + 9 } := by simp [payP, writesOf, hp]
 unfold touch17
 have hd : doP [] maxw ⟨15, a, b, c, m⟩ r = freshP maxw ⟨15, a, b, c, m⟩ r := by simp [doP]
 rw [hd]
 unfold freshP fresh17
 simp only [hpay]
 cases hpk : r.pick with
 | nil => simp
 | cons h rest =>
   by_cases hq : (r.st.blocks h).isSome = true ∨ h = 0 ∨ 64 < h
   ·simp only [if_pos hq]; rfl
   ·simp only [if_neg hq]; rfl
theorem d16_none (h : r.st.blocks (r.reg a) = none) : touch17 maxw ⟨16, a, b, c, m⟩ r = { r with code := 44 } := touch_bad (r' := r) (by simp [doP, freeP, h]) (by decide)
theorem d16_poor {ws : List Int} (h : r.st.blocks (r.reg a) = some ws) (hp : maxw - r.writes < 2) : touch17 maxw ⟨16, a, b, c, m⟩ r = { r with code := 42 } := touch_bad (r' := r) (by simp [doP, freeP, h, payP, writesOf, hp]) (by decide)
theorem d16_ok {ws : List Int} (h : r.st.blocks (r.reg a) = some ws) (hp : ¬ maxw - r.writes < 2) : touch17 maxw ⟨16, a, b, c, m⟩ r = { r with writes := r.writes + 2, st := { r.st with blocks := upd r.st.blocks (r.reg a) none } } := touch_good (by simp [doP, freeP, h, payP, writesOf, hp])
end
end Go.Proofs.Ytjggmimaolddkaa
namespace Go.Proofs.Ytjggmimaolddkaa
open Go.RowKit
set_option linter.unusedVariables false
set_option linter.unusedSimpArgs false
theorem RVIn.setSteps {w : World} {B : Nat} {c : RR} {r : MRun} (h : RVIn w B c r) (x : Int) : RVIn w B { c with steps := x } { r with steps := x } :=
 ⟨⟨h.sz.1, h.sz.2⟩, h.roots, h.regs, h.pc, rfl, h.writes, h.ended, h.val, h.err, h.box, h.news, h.pick, h.few⟩
theorem RVIn.setPc {w : World} {B : Nat} {c : RR} {r : MRun} (h : RVIn w B c r) (x : Int) : RVIn w B { c with pc := x } { r with pc := x } :=
 ⟨⟨h.sz.1, h.sz.2⟩, h.roots, h.regs, rfl, h.steps, h.writes, h.ended, h.val, h.err, h.box, h.news, h.pick, h.few⟩
theorem RVIn.setEnded {w : World} {B : Nat} {c : RR} {r : MRun} (h : RVIn w B c r) (x : Bool) : RVIn w B { c with ended := x } { r with ended := x } :=
 ⟨⟨h.sz.1, h.sz.2⟩, h.roots, h.regs, h.pc, h.steps, h.writes, rfl, h.val, h.err, h.box, h.news, h.pick, h.few⟩
theorem RVIn.setVal {w : World} {B : Nat} {c : RR} {r : MRun} (h : RVIn w B c r) (x : Int) : RVIn w B { c with val := x } { r with val := x } :=
 ⟨⟨h.sz.1, h.sz.2⟩, h.roots, h.regs, h.pc, h.steps, h.writes, h.ended, rfl, h.err, h.box, h.news, h.pick, h.few⟩
theorem BkC.setSteps {w : World} {g : Nat} {c : RR} (h : BkC w g c) (x : Int) : BkC (w.setCell ⟨g, 34, none⟩ (.int .i64 x)) g { c with steps := x } := h.setAny (RR.set_steps h.sz x) h.sz.1 h.sz.2
theorem BkC.setPc {w : World} {g : Nat} {c : RR} (h : BkC w g c) (x : Int) : BkC (w.setCell ⟨g, 17, none⟩ (.int .i64 x)) g { c with pc := x } := h.setAny (RR.set_pc h.sz x) h.sz.1 h.sz.2
theorem BkC.setEnded {w : World} {g : Nat} {c : RR} (h : BkC w g c) (x : Bool) : BkC (w.setCell ⟨g, 38, none⟩ (.bool x)) g { c with ended := x } := h.setAny (RR.set_ended h.sz x) h.sz.1 h.sz.2
theorem BkC.setVal {w : World} {g : Nat} {c : RR} (h : BkC w g c) (x : Int) : BkC (w.setCell ⟨g, 39, none⟩ (.int .u64 x)) g { c with val := x } := h.setAny (RR.set_val h.sz x) h.sz.1 h.sz.2
def step17 (args : List Int) (fuel maxw : Int) (i : Ins) (r : MRun) : MRun := if fuel ≤ r.steps then { r with code := 41 } else match stepP args maxw i { r with steps := r.steps + 1 } with
 | (e, r') => if e = 0 then r' else { r' with code := e }
theorem rgAt {w : World} {g : Nat} {c : RR} (h : BkC w g c) {l : List Int} (hl : c.regs = l) (k : Nat) {z : Int} (hz : l[k]? = some z) : w.cell? ⟨g, 18 + k, none⟩ = some (.int .u64 z) := by
 have hk : k < c.regs.length := by rw [hl]; exact (List.getElem?_eq_some_iff.1 hz).1
 rw [h.reg (by rw [← h.sz.regs]; exact hk), hl, List.getD_eq_getElem?_getD, hz]; rfl
theorem step_fuel {args : List Int} {fuel maxw : Int} {i : Ins} {r : MRun} (h : fuel ≤ r.steps) : step17 args fuel maxw i r = { r with code := 41 } := if_pos h
theorem step_bad {args : List Int} {fuel maxw e : Int} {i : Ins} {r r' : MRun} (h : ¬ fuel ≤ r.steps) (hd : doP args maxw i { r with steps := r.steps + 1, pc := r.pc + 1 } = (e, r')) (he : e ≠ 0) : step17 args fuel maxw i r = { r' with code := e } := by
 have hd' : stepP args maxw i { r with steps := r.steps + 1 } = (e, r') := hd
 unfold step17; rw [if_neg h, hd']; exact if_neg he
theorem step_good {args : List Int} {fuel maxw : Int} {i : Ins} {r r' : MRun} (h : ¬ fuel ≤ r.steps) (hd : doP args maxw i { r with steps := r.steps + 1, pc := r.pc + 1 } = (0, r')) : step17 args fuel maxw i r = r' := by
 have hd' : stepP args maxw i { r with steps := r.steps + 1 } = (0, r') := hd
 unfold step17; rw [if_neg h, hd']; exact if_pos rfl
theorem step_touch {args : List Int} {fuel maxw : Int} {i : Ins} {r : MRun} (h : ¬ fuel ≤ r.steps) (ho : 9 ≤ i.op ∧ i.op ≤ 16) : step17 args fuel maxw i r = touch17 maxw i { r with steps := r.steps + 1, pc := r.pc + 1 } := by
 have hd' : stepP args maxw i { r with steps := r.steps + 1 } = doP [] maxw i { r with steps := r.steps + 1, pc := r.pc + 1 } := do_args args ho
 unfold step17; rw [if_neg h, hd']; rfl
theorem step_reckon {args : List Int} {fuel maxw : Int} {i : Ins} {r : MRun} (h : ¬ fuel ≤ r.steps) (ho : 0 ≤ i.op ∧ i.op < 9) : step17 args fuel maxw i r = { r with steps := r.steps + 1, pc := r.pc + 1, regs := r.regs.set i.a.toNat (reckonP i r.regs args) } := by
 refine step_good h ?_
 have h1 : ¬ i.op = 17 := by omega
 have h2 : ¬ i.op = 18 := by omega
 have h3 : ¬ i.op = 19 := by omega
 have h4 : ¬ i.op = 20 := by omega
 have h5 : ¬ i.op = 21 := by omega
 have h6 : ¬ (i.op = 9 ∨ i.op = 10) := by omega
 have h7 : ¬ (i.op = 11 ∨ i.op = 12 ∨ i.op = 13 ∨ i.op = 14) := by omega
 have h8 : ¬ i.op = 15 := by omega
 have h9 : ¬ i.op = 16 := by omega
 rw [doP, if_neg h1, if_neg h2, if_neg h3, if_neg h4, if_neg h5, if_neg h6, if_neg h7, if_neg h8, if_neg h9]
 rfl
end Go.Proofs.Ytjggmimaolddkaa
namespace Go.Proofs.Ytjggmimaolddkaa
open Go.RowKit
set_option linter.unusedVariables false
set_option linter.unusedSimpArgs false
theorem results_cells {P : Program} {fn : Func} {p q : Tmp} {ty ty' : TypeId} (h : fn.results = #[.cell p ty, .cell q ty']) (tmps : Array Value) (w : World) (g g' : Nat) (t t' : TypeId) (cs cs' : Array Value) (d d' : TypeDesc)
 (hp : tmps.getD p undef = .pointer (some ⟨g, 0, none⟩)) (hg : Bk w g t cs) (hq : tmps.getD q undef = .pointer (some ⟨g', 0, none⟩)) (hg' : Bk w g' t' cs')
 (hu : P.underlying ty = some d) (hd : (match d with | .struct _ | .array _ _ => true | _ => false) = true) (hi : (P.info? ty).map (·.size) = some cs.size)
 (hu' : P.underlying ty' = some d') (hd' : (match d' with | .struct _ | .array _ _ => true | _ => false) = true) (hi' : (P.info? ty').map (·.size) = some cs'.size) :
 (results fn tmps).run P w = .ok (.tuple #[.agg cs, .agg cs']) w := by
 have hp' : tmps[p]?.getD undef = .pointer (some ⟨g, 0, none⟩) := by simpa using hp
 have hq' : tmps[q]?.getD undef = .pointer (some ⟨g', 0, none⟩) := by simpa using hq
 simp [results, h, hp', hq', asAddr, run_loadVar_row w g t ty cs _ d hg hu hd hi, run_loadVar_row w g' t' ty' cs' _ d' hg' hu' hd' hi']
theorem wp_store_rowH {P : Program} (a : Act) (w : World) {K : Act → World → Prop} {Q : Exit → Act → World → Prop} (ty oty : TypeId) (x y : Operand) (g : Nat) (cells : Array Value) (hx : a.eval x = .pointer (some ⟨g, 0, none⟩)) (hy : a.eval y = .agg cells)
 (t : TypeId) (old : Array Value) (hg : Bk w g t old) (hi : (P.info? ty).map (·.size) = some cells.size) (hold : old.size = cells.size) (h1 : cells.all (·.oneCell') = true)
 (h : K (a.put none undef) (w.setRow g cells)) : Oper.wp P { bareOp (.store ty x y) oty with dst := none } a w K Q := by
 have hn : (cells.toList ++ old.toList.drop cells.size).toArray = cells := by
  rw [List.drop_of_length_le (by simp [hold])]; simp
 unfold Oper.wp execOp
 simp only [hx, hy, Instr.storeAt, Instr.sureAddr, Sem.run_bind, Sem.run_pure, Result.andThen_ok, rf_storeVar_seg w g t ty old cells cells hg hi (by omega) h1 hn]
 exact h
structure StR (w : World) (roots : List Int) (bv : Value) (s : MSt) : Prop where
 roots : roots = s.roots
 len : s.roots.length = 16
 box : ∃ A n k l, bv = .slice A n k ∧ RdX w w.heap.size A n l ∧ BX s.blocks l
 few : Few64 s
theorem RVIn.st {w : World} {c : RR} {r : MRun} (h : RVIn w w.heap.size c r) : StR w c.roots c.bv r.st := ⟨h.roots, by rw [← h.roots]; exact h.sz.roots, h.box, h.few⟩
theorem SlIn.rd {w : World} {size n k : Nat} {A : Option Addr} {xs : List Value} {S : Nat → Prop} (h : SlIn S (.slice A n k)) (hr : Rd w w.heap.size size A n xs) : SlIn (fun b => S b ∧ b < w.heap.size) (.slice A n k) := by
 intro a n' k' e hn
 have e2 := e
 injection e with e1 en _
 refine ⟨h a n' k' e2 hn, ?_⟩
 obtain ⟨b, o, e3, hb, _⟩ := hr.at_ (by omega)
 rw [e1] at e3
 injection e3 with e3
 rw [e3]; exact hb
theorem SIn.rv {w : World} {S : Nat → Prop} {c : RR} {r : MRun} (h : SIn S c) (hv : RVIn w w.heap.size c r) : SIn (fun b => S b ∧ b < w.heap.size) c := by
 obtain ⟨A, n, k, l, e1, h1, _⟩ := hv.box
 obtain ⟨A', k', e3, h3, _⟩ := hv.news
 obtain ⟨A'', k'', e5, h5, _⟩ := hv.pick
 exact ⟨by have := h.bv; rw [e1] at this ⊢; exact this.rd h1.rd, by have := h.nv; rw [e3] at this ⊢; exact this.rd h3, by have := h.pv; rw [e5] at this ⊢; exact this.rd h5⟩
theorem Bk.range {w : World} {g : Nat} {t : TypeId} {cs : Array Value} (h : Bk w g t cs) : w.rangeAt g 0 cs.toList := by
 intro j v hv
 rw [Nat.zero_add, h.cell]; simpa using hv
def runM (N : Nat) (w : World) (g : Nat) : Nat := match w.cell? ⟨g, 40, none⟩, w.cell? ⟨g, 38, none⟩, w.cell? ⟨g, 34, none⟩ with
 | some (.int _ e), some (.bool b), some (.int _ s) => if e = 0 ∧ b = false then N + 1 - s.toNat else 0
 | _, _, _ => 0
theorem runM_on {N g : Nat} {w : World} {c : RR} (h : BkC w g c) (he : c.e = 0) (hb : c.ended = false) : runM N w g = N + 1 - c.steps.toNat := by
 unfold runM; rw [h.err, h.ended, h.steps]; simp [he, hb]
theorem runM_off {N g : Nat} {w : World} {c : RR} (h : BkC w g c) (he : ¬ (c.e = 0 ∧ c.ended = false)) : runM N w g = 0 := by
 unfold runM; rw [h.err, h.ended, h.steps]; simp only []; rw [if_neg he]
theorem pay_val {maxw op : Int} {r r' : MRun} (h : payP maxw op r = some r') : r'.val = r.val := by
 unfold payP at h
 split at h
 ·simp at h
 ·injection h with h; subst h; rfl
theorem root_val (maxw : Int) (i : Ins) (r : MRun) : (rootP maxw i r).2.val = r.val := by
 unfold rootP
 split
 ·rfl
 split
 ·rfl
 cases h : payP maxw i.op r with
 | none => rfl
 | some r' => exact (show r'.val = r.val from pay_val h)
theorem word_val (maxw : Int) (i : Ins) (r : MRun) : (wordP maxw i r).2.val = r.val := by
 unfold wordP
 cases r.st.blocks (r.reg i.b) with
 | none => rfl
 | some ws =>
   simp only
   split
   ·rfl
   split
   ·rfl
   cases h : payP maxw i.op r with
   | none => rfl
   | some r' => exact (show r'.val = r.val from pay_val h)
theorem fresh_val (maxw : Int) (i : Ins) (r : MRun) : (freshP maxw i r).2.val = r.val := by
 unfold freshP
 cases h : payP maxw i.op r with
 | none => rfl
 | some r' =>
   cases r.pick with
   | nil => exact (show r'.val = r.val from pay_val h)
   | cons x rest =>
     simp only
     split
     ·exact (show r'.val = r.val from pay_val h)
     ·exact (show r'.val = r.val from pay_val h)
theorem free_val (maxw : Int) (i : Ins) (r : MRun) : (freeP maxw i r).2.val = r.val := by
 unfold freeP
 cases r.st.blocks (r.reg i.a) with
 | none => rfl
 | some ws =>
   simp only
   cases h : payP maxw i.op r with
   | none => rfl
   | some r' => exact (show r'.val = r.val from pay_val h)
theorem do_val {args : List Int} {maxw : Int} {i : Ins} {r : MRun} (h0 : (doP args maxw i r).1 = 0) (he : (doP args maxw i r).2.ended = false) : (doP args maxw i r).2.val = r.val := by
 unfold doP at *
 split at h0
 ·next h => rw [if_pos h]
 next g1 =>
 rw [if_neg g1] at he ⊢
 split at h0
 ·next h => rw [if_pos h]; split <;> rfl
 next g2 =>
 rw [if_neg g2] at he ⊢
 split at h0
 ·next h => rw [if_pos h]; split <;> rfl
 next g3 =>
 rw [if_neg g3] at he ⊢
 split at h0
 ·next h => rw [if_pos h] at he; simp at he
 next g4 =>
 rw [if_neg g4] at he ⊢
 split at h0
 ·simp at h0
 next g5 =>
 rw [if_neg g5] at he ⊢
 split at h0
 ·next h => rw [if_pos h]; exact root_val _ _ _
 next g6 =>
 rw [if_neg g6] at he ⊢
 split at h0
 ·next h => rw [if_pos h]; exact word_val _ _ _
 next g7 =>
 rw [if_neg g7] at he ⊢
 split at h0
 ·next h => rw [if_pos h]; exact fresh_val _ _ _
 next g8 =>
 rw [if_neg g8] at he ⊢
 split at h0
 ·next h => rw [if_pos h]; exact free_val _ _ _
 next g9 =>
 rw [if_neg g9]
 rfl
def PlayP (S : Nat → Prop) (s : MSt) (D : MRun) (w : World) (e : Ending) (w' : World) : Prop :=
 ∃ c roots bv, e = .returned (.tuple #[.agg (stV roots bv).toArray, .agg c.cells.toArray]) ∧ RVIn w' w'.heap.size c D ∧ StR w' roots bv (afterP s D) ∧ SIn (fun b => S b ∨ w.heap.size ≤ b) c ∧ SlIn (fun b => S b ∨ w.heap.size ≤ b) bv ∧ Below w.heap.size w w'
def PlayAt (l : List Ins) (args : List Int) (maxw : Int) (N P0 : Nat) (r0 : MRun) (r : MRun) : Prop :=
 (∃ k : Nat, Under l args maxw N P0 r0 k r ∧ r.ended = false ∧ r.val = 0) ∨ (r = goP l args maxw N r0 ∧ ¬ (r.code = 0 ∧ r.ended = false))
theorem play_step {l : List Ins} {args : List Int} {maxw fuel : Int} {N P0 k : Nat} {r0 r : MRun} (hu : Under l args maxw N P0 r0 k r) (he : r.ended = false) (hv : r.val = 0) (hl : rightP l = true) (hok : ∀ i ∈ l, i.Ok) (ha : ∀ x ∈ args, U64 x) (hN : N ≤ 10000000000) (hf : fuel = (N : Int)) {i : Ins} (hi : l[r.pc.toNat]? = some i) :
 PlayAt l args maxw N P0 r0 (step17 args fuel maxw i r) ∧ ((step17 args fuel maxw i r).code = 0 → (step17 args fuel maxw i r).ended = false → (step17 args fuel maxw i r).steps = r.steps + 1 ∧ r.steps < fuel) := by
 have hst := hu.steps
 by_cases hk : fuel ≤ r.steps
 ·rw [step_fuel hk]
  refine ⟨.inr ⟨?_, by simp⟩, fun h => by simp at h⟩
  have hkN : N - k = 0 := by omega
  rw [hu.eq, hkN, goP, hv.symm]
 ·have hkN : k < N := by omega
  obtain ⟨p, hp⟩ : ∃ p, stepP args maxw i { r with steps := r.steps + 1 } = p := ⟨_, rfl⟩
  obtain ⟨h1, h2, h3, h4, h5, h6⟩ := hu.step hl hok ha hkN hN he hi hp.symm
  have hs : step17 args fuel maxw i r = if p.1 = 0 then p.2 else { p.2 with code := p.1 } := by
   unfold step17; rw [if_neg hk, hp]
  by_cases h0 : p.1 = 0
  ·rw [if_pos h0] at hs
   rw [hs]
   refine ⟨?_, fun _ _ => ⟨by omega, by omega⟩⟩
   cases hen : p.2.ended with
   | true => exact .inr ⟨(h5 h0 hen).eq.symm, by simp [hen]⟩
   | false =>
     refine .inl ⟨k + 1, h6 h0 hen, hen, ?_⟩
     rw [← hv, ← hp]
     exact do_val (r := { r with steps := r.steps + 1, pc := r.pc + 1 }) (by have := h0; rw [← hp] at this; exact this) (by have := hen; rw [← hp] at this; exact this)
  ·rw [if_neg h0] at hs
   rw [hs]
   exact ⟨.inr ⟨(h4 h0).symm, fun h => h0 h.1⟩, fun h => absurd h h0⟩
def rr0 (roots : List Int) (bv pv : Value) : RR := { roots := roots, bv := bv, pc := 0, regs := zero16, steps := 0, writes := 0, nv := .slice none 0 0, pv := pv, ended := false, val := 0, e := 0 }
theorem built_run {roots : List Int} (h : roots.length = 16) (A A' : Option Addr) (n k n' k' : Nat) : Try.prog.built RUN [(0, .agg (stV roots (.slice A n k)).toArray), (6, .slice A' n' k')] = some (rr0 roots (.slice A n k) (.slice A' n' k')).cells.toArray := by
 obtain ⟨z0, z1, z2, z3, z4, z5, z6, z7, z8, z9, z10, z11, z12, z13, z14, z15, rfl⟩ := sixteen h
 kernel_rfl
theorem start_rv {w : World} {roots : List Int} {bv : Value} {s : MSt} {A : Option Addr} {k : Nat} {pick : List Int} (h : StR w roots bv s) (hp : RdU w w.heap.size A pick.length pick) (hk : pick.length ≤ k) : RVIn w w.heap.size (rr0 roots bv (.slice A pick.length k)) (startP s pick) :=
 ⟨⟨by rw [show (rr0 roots bv (.slice A pick.length k)).roots = roots from rfl, h.roots]; exact h.len, rfl⟩, h.roots, rfl, rfl, rfl, rfl, rfl, rfl, rfl, h.box, ⟨none, 0, rfl, Rd.nil _ _ _ _, Nat.le_refl _⟩, ⟨A, k, rfl, hp, hk⟩, h.few⟩
theorem StR.below {w w' : World} {roots : List Int} {bv : Value} {s : MSt} (h : StR w roots bv s) (hb : Below w.heap.size w w') : StR w' roots bv s := by
 obtain ⟨A, n, k, l, e, h1, h2⟩ := h.box
 exact ⟨h.roots, h.len, ⟨A, n, k, l, e, (h1.below hb).more hb.size, h2⟩, h.few⟩
theorem StR.keepS {S : Nat → Prop} {w V : World} {roots : List Int} {bv : Value} {s : MSt} (h : StR w roots bv s) (hs : SlIn S bv) (hV : ∀ p : Addr, S p.block → V.cell? p = w.cell? p) (hz : w.heap.size ≤ V.heap.size) : StR V roots bv s := by
 obtain ⟨A, n, k, l, e, h1, h2⟩ := h.box
 exact ⟨h.roots, h.len, ⟨A, n, k, l, e, ⟨h1.rd.keepS (e ▸ hs) hV hz, h1.len, h1.ok⟩, h2⟩, h.few⟩
end Go.Proofs.Ytjggmimaolddkaa
