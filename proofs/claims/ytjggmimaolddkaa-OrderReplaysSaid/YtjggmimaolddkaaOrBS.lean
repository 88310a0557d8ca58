import Derived.Test.YtjggmimaolddkaaOrAT
import Derived.Test.YtjggmimaolddkaaOrAA
import Derived.Test.YtjggmimaolddkaaOrBR
import Derived.Test.YtjggmimaolddkaaOrAU
namespace Go.Proofs.Ytjggmimaolddkaa
open Go.RowKit
set_option linter.unusedVariables false
set_option maxRecDepth 100000 in
set_option maxHeartbeats 4000000 in
theorem rr07_any (c : Cfg) (w : World) : Calls Try.prog 25 #[c.v] w fun e w' => e = .returned (.bool c.right) ∧ Below w.heap.size w w' := by
 obtain ⟨T, B, W, FU, fi, la⟩ := c
 unfold Cfg.v
 simp only
 have HB : Hid (Below w.heap.size w (w.alloc (.cells #[.int .i64 T, .int .i64 B, .int .i64 W, .int .i64 FU, .int .u64 fi, .int .u64 la] 44))) := (Below.refl _ _).alloc (Nat.le_refl _) _
 have HR : Hid (Cfg.right ⟨T, B, W, FU, fi, la⟩ = (decide (1 ≤ T) && decide (T ≤ 8) && decide (1 ≤ B) && decide (B ≤ 64) && decide (0 ≤ W) && decide (W ≤ 64) && decide (1 ≤ FU) && decide (FU ≤ 1000) && decide (fi ≤ la) && decide (la ≤ 140737488355328))) := rfl
 go_enter Try.func25, Try.ntmps25
 by_cases h0 : 0 < T
 case neg =>
  have d0 : decide (0 < T) = false := decide_eq_false h0
  have HN : Hid (¬ 0 < T) := h0
  go_wp2
  go_ret
  exact ⟨ret_bool (by rw [HR.out]; have := HN.out; simp; intros; omega), HB.out⟩
 have d0 : decide (0 < T) = true := decide_eq_true h0
 by_cases h1 : T < 9
 case neg =>
  have d1 : decide (T < 9) = false := decide_eq_false h1
  have HN : Hid (¬ T < 9) := h1
  go_wp2
  go_ret
  exact ⟨ret_bool (by rw [HR.out]; have := HN.out; simp; intros; omega), HB.out⟩
 have d1 : decide (T < 9) = true := decide_eq_true h1
 by_cases h2 : 0 < B
 case neg =>
  have d2 : decide (0 < B) = false := decide_eq_false h2
  have HN : Hid (¬ 0 < B) := h2
  go_wp2
  go_ret
  exact ⟨ret_bool (by rw [HR.out]; have := HN.out; simp; intros; omega), HB.out⟩
 have d2 : decide (0 < B) = true := decide_eq_true h2
 by_cases h3 : B < 65
 case neg =>
  have d3 : decide (B < 65) = false := decide_eq_false h3
  have HN : Hid (¬ B < 65) := h3
  go_wp2
  go_ret
  exact ⟨ret_bool (by rw [HR.out]; have := HN.out; simp; intros; omega), HB.out⟩
 have d3 : decide (B < 65) = true := decide_eq_true h3
 by_cases h4 : 0 ≤ W
 case neg =>
  have d4 : decide (0 ≤ W) = false := decide_eq_false h4
  have HN : Hid (¬ 0 ≤ W) := h4
  go_wp2
  go_ret
  exact ⟨ret_bool (by rw [HR.out]; have := HN.out; simp; intros; omega), HB.out⟩
 have d4 : decide (0 ≤ W) = true := decide_eq_true h4
 by_cases h5 : W < 65
 case neg =>
  have d5 : decide (W < 65) = false := decide_eq_false h5
  have HN : Hid (¬ W < 65) := h5
  go_wp2
  go_ret
  exact ⟨ret_bool (by rw [HR.out]; have := HN.out; simp; intros; omega), HB.out⟩
 have d5 : decide (W < 65) = true := decide_eq_true h5
 by_cases h6 : 0 < FU
 case neg =>
  have d6 : decide (0 < FU) = false := decide_eq_false h6
  have HN : Hid (¬ 0 < FU) := h6
  go_wp2
  go_ret
  exact ⟨ret_bool (by rw [HR.out]; have := HN.out; simp; intros; omega), HB.out⟩
 have d6 : decide (0 < FU) = true := decide_eq_true h6
 by_cases h7 : FU < 1001
 case neg =>
  have d7 : decide (FU < 1001) = false := decide_eq_false h7
  have HN : Hid (¬ FU < 1001) := h7
  go_wp2
  go_ret
  exact ⟨ret_bool (by rw [HR.out]; have := HN.out; simp; intros; omega), HB.out⟩
 have d7 : decide (FU < 1001) = true := decide_eq_true h7
 by_cases h8 : fi ≤ la
 case neg =>
  have d8 : decide (fi ≤ la) = false := decide_eq_false h8
  have HN : Hid (¬ fi ≤ la) := h8
  go_wp2
  go_ret
  exact ⟨ret_bool (by rw [HR.out]; have := HN.out; simp; intros; omega), HB.out⟩
 have d8 : decide (fi ≤ la) = true := decide_eq_true h8
 by_cases h9 : la ≤ 140737488355328
 case neg =>
  have d9 : decide (la ≤ 140737488355328) = false := decide_eq_false h9
  have HN : Hid (¬ la ≤ 140737488355328) := h9
  go_wp2
  go_ret
  exact ⟨ret_bool (by rw [HR.out]; have := HN.out; simp; intros; omega), HB.out⟩
 have d9 : decide (la ≤ 140737488355328) = true := decide_eq_true h9
 have HY : Hid (1 ≤ T ∧ T ≤ 8 ∧ 1 ≤ B ∧ B ≤ 64 ∧ 0 ≤ W ∧ W ≤ 64 ∧ 1 ≤ FU ∧ FU ≤ 1000 ∧ fi ≤ la ∧ la ≤ 140737488355328) := by show _ ∧ _; omega
 go_wp2
 go_ret
 obtain ⟨y0, y1, y2, y3, y4, y5, y6, y7, y8, y9⟩ := HY.out
 exact ⟨ret_bool (by rw [HR.out, decide_eq_true y0, decide_eq_true y1, decide_eq_true y2, decide_eq_true y3, decide_eq_true y4, decide_eq_true y5, decide_eq_true y6, decide_eq_true y7, decide_eq_true y8, decide_eq_true y9]; rfl), HB.out⟩
set_option maxRecDepth 100000 in
set_option maxHeartbeats 1000000 in
theorem rlim07_any (c : Cfg) (hR : c.Right) (w : World) : Calls Try.prog 28 #[c.v] w fun e w' => e = .returned (.int .i64 c.lim) ∧ Below w.heap.size w w' := by
 have hT := hR.T
 have hW := hR.W
 have HE : Hid (c.lim = c.T * c.W + c.T) := by show _ = _; unfold Cfg.lim; rw [Int.mul_add, Int.mul_one]
 have hb := mul_bounds (show 1 ≤ c.T from hT.1) hT.2 (show 0 ≤ c.W from hW.1) hW.2 (by omega) (by omega)
 obtain ⟨T, B, W, FU, fi, la⟩ := c
 simp only at hT hW HE hb
 obtain ⟨hb1, hb2⟩ := hb
 obtain ⟨P, hP⟩ : ∃ P, T * W = P := ⟨_, rfl⟩
 rw [hP] at hb1 hb2
 have HP := Lib.hid hP
 have hw1 : IntKind.i64.wrap (T * W) = P := by rw [hP, IntKind.wrap_i64]; omega
 have hw2 : IntKind.i64.wrap (P + T) = P + T := by rw [IntKind.wrap_i64]; omega
 unfold Cfg.v
 simp only
 have HB : Hid (Below w.heap.size w (w.alloc (.cells #[.int .i64 T, .int .i64 B, .int .i64 W, .int .i64 FU, .int .u64 fi, .int .u64 la] 44))) := (Below.refl _ _).alloc (Nat.le_refl _) _
 clear hP hR
 go_enter Try.func28, Try.ntmps28
 go_wp2
 go_ret
 exact ⟨ret_int (by rw [HE.out, HP.out]), HB.out⟩
set_option maxRecDepth 100000 in
set_option maxHeartbeats 1000000 in
theorem rcode17_any (ps : List (List Ins)) (A : Option Addr) (n c : Nat) (k : Int) (w : World) (h : ProgsIn w w.heap.size A n ps) :
 Calls Try.prog 27 #[.slice A n c, .int .i64 k] w fun e w' => (∃ A' c', e = .returned (.slice A' (codeP ps k).length c') ∧ RdI w w.heap.size A' (codeP ps k).length (codeP ps k) ∧ (codeP ps k).length ≤ c') ∧ w' = w := by
 have h63 := h.le
 have HL := Lib.hid h.len
 have HP := Lib.hid h
 unfold maxLen at h63
 clear h
 go_enter Try.func27, Try.ntmps27
 by_cases h0 : k < 0
 ·have HE : Hid (codeP ps k = []) := by show _ = _; unfold codeP; rw [if_pos h0]
  have d0 : decide (k < 0) = true := decide_eq_true h0
  go_wp2
  go_ret
  refine ⟨⟨none, 0, ?_, ?_, ?_⟩, rfl⟩
  ·rw [HE.out]; rfl
  ·rw [HE.out]; exact Rd.nil _ _ _ _
  ·rw [HE.out]; exact Nat.le_refl _
 ·have d0 : decide (k < 0) = false := decide_eq_false h0
  by_cases h1 : (n : Int) ≤ k
  ·have HE : Hid (codeP ps k = []) := by
    show _ = _
    unfold codeP
    rw [if_neg h0, List.getD_eq_getElem?_getD, List.getElem?_eq_none (by rw [HL.out]; omega)]; rfl
   have d1 : decide ((n : Int) ≤ k) = true := decide_eq_true h1
   go_wp2
   go_ret
   refine ⟨⟨none, 0, ?_, ?_, ?_⟩, rfl⟩
   ·rw [HE.out]; rfl
   ·rw [HE.out]; exact Rd.nil _ _ _ _
   ·rw [HE.out]; exact Nat.le_refl _
  ·obtain ⟨j, rfl⟩ : ∃ j : Nat, k = j := ⟨k.toNat, by omega⟩
   have d1 : decide ((n : Int) ≤ (j : Int)) = false := decide_eq_false h1
   have hj : j < ps.length := by rw [HL.out]; omega
   obtain ⟨b, o, A', c', rfl, hb, hc, hr, hl⟩ := HP.out.at_ j _ (List.getElem?_eq_getElem hj)
   have HE : Hid (codeP ps (j : Int) = ps[j]'hj) := by
    show _ = _
    unfold codeP
    rw [if_neg h0, List.getD_eq_getElem?_getD, Int.toNat_natCast, List.getElem?_eq_getElem hj]; rfl
   have HRr := Lib.hid hr
   have HLl := Lib.hid hl
   obtain ⟨m, hm⟩ : ∃ m, (ps[j]'hj).length = m := ⟨_, rfl⟩
   rw [hm] at hc HRr HLl
   have HM := Lib.hid hm
   clear hr hl hm
   go_wp2
   go_ret
   refine ⟨⟨A', c', ?_, ?_, ?_⟩, rfl⟩
   ·rw [HE.out, HM.out]; rfl
   ·rw [HE.out, HM.out]; exact HRr.out
   ·rw [HE.out, HM.out]; exact HLl.out
end Go.Proofs.Ytjggmimaolddkaa
namespace Go.Proofs.Ytjggmimaolddkaa
open Go.RowKit
set_option linter.unusedVariables false
set_option maxRecDepth 100000 in
set_option maxHeartbeats 4000000 in
theorem rfind17_any (l : List Rc7) (A : Option Addr) (n c : Nat) (who tag : Int) (w : World) (hr : RdR w w.heap.size A n l) :
 Calls Try.prog 8 #[.slice A n c, .int .i64 who, .int .i64 tag] w fun e w' => e = .returned (.int .i64 (findI (who, tag) l 0)) ∧ w' = w := by
 have hn := hr.le
 have hlen := hr.rcLen
 have HR := Lib.hid hr
 have HLen := Lib.hid hlen
 unfold maxLen at hn
 clear hr hlen
 go_enter Try.func8, Try.ntmps8
 go_wp2
 go_loopw [7] (fun i wr => ∃ k : Nat, (k ≤ n ∧ i = .int .i64 k) ∧ Hid (findI (who, tag) (l.drop k) k = findI (who, tag) l 0) ∧ wr = w) (fun i _ => n - (intOf i).toNat)
 case atStart => exact ⟨0, ⟨by omega, rfl⟩, rfl, rfl⟩
 case round =>
  obtain ⟨k, ⟨hk, rfl⟩, HG, rfl⟩ := hrel
  by_cases hlt : k < n
  ·have hlti : (k : Int) < (n : Int) := by omega
   obtain ⟨b, o, r, rfl, hb, hrk, hc⟩ := HR.out.rcAt hlt
   have hkl : k < l.length := by rw [HLen.out]; exact hlt
   have hdr : l.drop k = r :: l.drop (k + 1) := by
    rw [List.drop_eq_getElem_cons hkl]; rw [List.getElem?_eq_getElem hkl] at hrk; injection hrk with hrk; rw [hrk]
   have hg := HG.out
   rw [hdr, findI_cons] at hg
   obtain ⟨rw_, rt, rp, x0, x1, x2, x3, rf, rl, rs, rd, rc, rv⟩ := r
   have d0 := hc 0 _ rfl
   have d1 := hc 1 _ rfl
   simp only [← Nat.add_assoc, Nat.add_zero] at d0 d1
   clear hc hdr hrk hkl
   by_cases h0 : rw_ = who
   ·subst h0
    by_cases h1 : rt = tag
    ·subst h1
     rw [if_pos rfl] at hg
     have HG2 := Lib.hid hg
     clear hg
     go_wp2
     go_ret
     exact ⟨ret_int HG2.out, rfl⟩
    ·have e1 : (rt == tag) = false := beq_eq_false_iff_ne.2 h1
     rw [if_neg (fun e => h1 (by have := congrArg Prod.snd e; exact this))] at hg
     have HG2 := Lib.hid hg
     clear hg
     go_wp2
     go_roundw
     case rel => exact ⟨k + 1, ⟨by omega, by go_num⟩, HG2.out, trivial⟩
     case measure => simp [intOf]; omega
   ·have e0 : (rw_ == who) = false := beq_eq_false_iff_ne.2 h0
    rw [if_neg (fun e => h0 (by have := congrArg Prod.fst e; exact this))] at hg
    have HG2 := Lib.hid hg
    clear hg
    go_wp2
    go_roundw
    case rel => exact ⟨k + 1, ⟨by omega, by go_num⟩, HG2.out, trivial⟩
    case measure => simp [intOf]; omega
  ·obtain rfl : k = n := by omega
   have hg := HG.out
   rw [List.drop_of_length_le (by rw [HLen.out]; exact Nat.le_refl _), findI_nil] at hg
   have HG2 := Lib.hid hg
   clear hg
   go_wp2
   go_ret
   exact ⟨ret_int HG2.out, rfl⟩
end Go.Proofs.Ytjggmimaolddkaa
namespace Go.Proofs.Ytjggmimaolddkaa
open Go.RowKit
set_option linter.unusedVariables false
set_option linter.unusedSimpArgs false
theorem results_ctt {P : Program} {fn : Func} {p u v : Tmp} {ty : TypeId} (h : fn.results = #[.cell p ty, .tmp u, .tmp v]) (tmps : Array Value) (w : World) (g : Nat) (t : TypeId) (cs : Array Value) (d : TypeDesc)
 (hp : tmps.getD p undef = .pointer (some ⟨g, 0, none⟩)) (hg : Bk w g t cs)
 (hu : P.underlying ty = some d) (hd : (match d with | .struct _ | .array _ _ => true | _ => false) = true) (hi : (P.info? ty).map (·.size) = some cs.size) :
 (results fn tmps).run P w = .ok (.tuple #[.agg cs, tmps.getD u undef, tmps.getD v undef]) w := by
 have hp' : tmps[p]?.getD undef = .pointer (some ⟨g, 0, none⟩) := by simpa using hp
 simp [results, h, hp', asAddr, run_loadVar_row w g t ty cs _ d hg hu hd hi]
section
variable {P : Program} {ops : Array Oper} {Q : Exit → Act → World → Prop} {md : Region.Mode} {S : World → Prop} {fuel : Nat} {listed : Array Bool} {a : Act} {w : World}
theorem comeH3 (i j m : Nat) {oi oj om : Oper} {op op' op'' : Op} {ty ty' ty'' : TypeId} {d d' d'' : Option Tmp} (hi : ops[i]? = some oi) (hop : oi.op = op) (hty : oi.type = ty) (hd : oi.dst = d)
 (hj : ops[j]? = some oj) (hop' : oj.op = op') (hty' : oj.type = ty') (hd' : oj.dst = d') (hm : ops[m]? = some om) (hop'' : om.op = op'') (hty'' : om.type = ty'') (hd'' : om.dst = d'')
 (hr : Region.ready md ops listed = [i, j, m]) (hw : Region.wanted oi (yielded ops a.tmps) = true) (hw' : Region.wanted oj (yielded ops a.tmps) = true) (hw'' : Region.wanted om (yielded ops a.tmps) = true)
 (h : ∀ K' : Act → World → Prop, Shut (∀ a w, S w → (S w → wpAnyH P md ops Q S fuel (listed.setIfInBounds i true) a w) → K' a w) → Oper.wp P { bareOp op ty with dst := d } a w K' Q)
 (h' : ∀ K' : Act → World → Prop, Shut (∀ a w, S w → (S w → wpAnyH P md ops Q S fuel (listed.setIfInBounds j true) a w) → K' a w) → Oper.wp P { bareOp op' ty' with dst := d' } a w K' Q)
 (h'' : ∀ K' : Act → World → Prop, Shut (∀ a w, S w → (S w → wpAnyH P md ops Q S fuel (listed.setIfInBounds m true) a w) → K' a w) → Oper.wp P { bareOp op'' ty'' with dst := d'' } a w K' Q) : wpAnyH P md ops Q S (fuel + 1) listed a w := by
 subst hop hty hd hop' hty' hd' hop'' hty'' hd''
 refine wpAnyH_ready hr (by simp) (AllReadyH.cons hi (fun K hK => ?_) (AllReadyH.cons hj (fun K hK => ?_) (AllReadyH.cons hm (fun K hK => ?_) AllReadyH.nil)))
 ·rw [if_pos hw]
  exact h K hK
 ·rw [if_pos hw']
  exact h' K hK
 ·rw [if_pos hw'']
  exact h'' K hK
end
theorem go_sok {l : List Ins} {args : List Int} {maxw : Int} (hok : ∀ i ∈ l, i.Ok) (ha : ∀ x ∈ args, U64 x) : ∀ (n k : Nat) (r : MRun), ROk maxw r → r.writes ≤ 9 * k → n + k ≤ 10000000000 → ROk maxw (goP l args maxw n r)
 | 0, k, r, h, _, _ => ⟨h.regs, h.roots, h.blocks, h.pick, h.w0, h.w1, h.mw⟩
 | n + 1, k, r, h, hw, hn => by
   have him : U64 (l.getD r.pc.toNat noIns).imm := by
    rw [List.getD_eq_getElem?_getD]
    cases hi : l[r.pc.toNat]? with
    | none => exact ⟨by decide, by decide⟩
    | some i => exact (hok i (List.mem_of_getElem? hi)).imm
   have hd := step_doing args maxw (l.getD r.pc.toNat noIns) { r with steps := r.steps + 1 }
   have h9 := hd.nine
   simp only at h9
   have hat : ROk maxw (atP l args maxw r).2 := step_ok (r := { r with steps := r.steps + 1 }) ⟨h.regs, h.roots, h.blocks, h.pick, h.w0, h.w1, h.mw⟩ (by show r.writes ≤ _; omega) ha him
   have h10 : (atP l args maxw r).2.writes ≤ 9 * ((k + 1 : Nat) : Int) := by
    show (stepP args maxw (l.getD r.pc.toNat noIns) { r with steps := r.steps + 1 }).2.writes ≤ _
    omega
   rcases at_cases l args maxw r with h1 | ⟨h1, h2⟩ | ⟨h1, h2⟩
   ·rw [goP_err h1]; exact ⟨hat.regs, hat.roots, hat.blocks, hat.pick, hat.w0, hat.w1, hat.mw⟩
   ·rw [goP_end h1 h2]; exact hat
   ·rw [goP_on h1 h2]; exact go_sok hok ha n (k + 1) _ hat h10 (by omega)
theorem run_sok {s : MSt} {l : List Ins} {args pick : List Int} {fuel maxw : Int} (hs : SOk s) (hok : ∀ i ∈ l, i.Ok) (ha : ∀ x ∈ args, U64 x) (hp : ∀ x ∈ pick, U64 x) (hm : 0 ≤ maxw ∧ maxw ≤ 1000000) (hf : fuel ≤ 1000000) : SOk (afterP s (runP s l args fuel maxw pick)) := by
 unfold afterP
 split
 ·unfold runP
  split
  ·next hr =>
   have h := go_sok (maxw := maxw) hok ha fuel.toNat 0 (startP s pick) (start_under (N := 0) (args := args) hs hp (by omega) hr).ok (by show (0 : Int) ≤ _; omega) (by omega)
   exact ⟨h.roots, h.blocks⟩
  ·exact hs
 ·exact hs
theorem SlIn.low {w : World} {B size n k : Nat} {A : Option Addr} {xs : List Value} (h : Rd w B size A n xs) : SlIn (fun b => b < B) (.slice A n k) := by
 intro a n' k' e hn
 injection e with e1 e2 _
 obtain ⟨b, o, e3, hb, _⟩ := h.at_ (by omega)
 rw [e1] at e3
 injection e3 with e3
 rw [e3]; exact hb
theorem StR.low {w : World} {roots : List Int} {bv : Value} {s : MSt} (h : StR w roots bv s) : SlIn (fun b => b < w.heap.size) bv := by
 obtain ⟨A, n, k, l, rfl, h1, _⟩ := h.box
 exact SlIn.low h1.rd
theorem SlIn.and {S T : Nat → Prop} {v : Value} (h : SlIn S v) (h' : SlIn T v) : SlIn (fun b => S b ∧ T b) v := fun a n k e hn => ⟨h a n k e hn, h' a n k e hn⟩
theorem StR.alloc {w : World} {roots : List Int} {bv : Value} {s : MSt} (h : StR w roots bv s) (o : Obj) : StR (w.alloc o) roots bv s := h.below ((Below.refl _ _).alloc (Nat.le_refl _) _)
theorem StR.drew {w : World} {roots : List Int} {bv : Value} {s : MSt} (h : StR w roots bv s) : StR w.drew roots bv s := h.below (Below.refl _ _).drew
theorem StR.one {w : World} {roots : List Int} {bv : Value} {s : MSt} (h : StR w roots bv s) : (stV roots bv).toArray.all (·.oneCell') = true := by
 obtain ⟨A, n, k, l, rfl, _, _⟩ := h.box
 exact stV_one _ _ _
theorem SlIn.new {w : World} {L : List Nat} {roots : List Int} {bv : Value} {s : MSt} (h : SlIn (fun b => b ∉ L) bv) (hr : StR w roots bv s) : SlIn (fun b => b ∉ w.heap.size :: L) bv :=
 (h.and hr.low).mono fun b hb hm => by
   rcases List.mem_cons.1 hm with rfl | hm
   ·exact Nat.lt_irrefl _ hb.2
   ·exact hb.1 hm
theorem args_range {w : World} {g : Nat} {t : TypeId} {qp a0 a1 a2 a3 : Int} (h : Bk w g t #[.int .i64 qp, .int .u64 a0, .int .u64 a1, .int .u64 a2, .int .u64 a3]) : w.rangeAt g 1 [.int .u64 a0, .int .u64 a1, .int .u64 a2, .int .u64 a3] := by
 intro j v hv
 have h1 := h.cell (1 + j)
 rw [h1, ← hv]
 rcases j with _ | _ | _ | _ | j
 ·rfl
 ·rfl
 ·rfl
 ·rfl
 ·simp at hv
theorem Bk.ne_type {w : World} {g k : Nat} {t t' : TypeId} {cs cs' : Array Value} (h : Bk w g t cs) (h' : Bk w k t' cs') (hne : t ≠ t') : g ≠ k := by
 rintro rfl
 unfold Bk at h h'
 rw [h] at h'
 injection h' with h'
 injection h' with _ h2 _
 exact hne h2
def Replay17 (w : World) (R : Option MSt × Nat × Int) (e : Ending) (w' : World) : Prop :=
 ∃ roots bv, e = .returned (.tuple #[.agg (stV roots bv).toArray, .int .i64 (R.2.1 : Int), .int .i64 R.2.2]) ∧ roots.length = 16 ∧ (∃ A n k, bv = .slice A n k) ∧ (∀ s, R.1 = some s → StR w' roots bv s) ∧ Below w.heap.size w w'
theorem built_st0 : Try.prog.built 53 [] = some zeroSt := by kernel_rfl
theorem empty_str (w : World) : StR w zero16 (.slice none 0 0) emptyS := ⟨rfl, rfl, ⟨none, 0, 0, [], rfl, ⟨Rd.nil _ _ _ _, rfl, fun b hb => by simp at hb⟩, BX.nil⟩, empty_few⟩
end Go.Proofs.Ytjggmimaolddkaa
