import Derived.Test.YtjggmimaolddkaaOrAB
import Derived.Test.YtjggmimaolddkaaOrAK
import Derived.Test.YtjggmimaolddkaaOrAQ
import Derived.Test.YtjggmimaolddkaaOrAS
import Derived.Test.YtjggmimaolddkaaOrAJ
namespace Go.Proofs.Ytjggmimaolddkaa
open Go.RowKit
set_option linter.unusedVariables false
structure Rx where
 r : Rw7
 news : List Int
def Rc7.args (q : Rc7) : List Int := [q.a0, q.a1, q.a2, q.a3]
def codeP (ps : List (List Ins)) (n : Int) : List Ins := if n < 0 then [] else ps.getD n.toNat []
def liveP (s : MSt) : Nat := ((List.range 65).filter fun h : Nat => (s.blocks (h : Int)).isSome).length
def badRun (c : Cfg) (s : MSt) (x : Rx) (d : MRun) : Int :=
 if ¬ (d.code = x.r.code ∧ d.val = x.r.val) ∨ d.news.length ≠ x.news.length then 51
 else if d.code = 43 ∧ (liveP s : Int) + x.news.length + c.lim < c.B then 43 else 0
def runRow (c : Cfg) (ps : List (List Ins)) (q : Rc7) (s : MSt) (x : Rx) : MRun := runP s (codeP ps q.prog) q.args c.F c.W x.news
def replayGo (c : Cfg) (ps : List (List Ins)) (recs : List Rc7) : List Rx → MSt → Nat → Option MSt × Nat × Int
 | [], s, _ => (some s, 0, 0)
 | x :: l, s, n => match findK x.r.key recs 0 with
   | none => (none, n, 4)
   | some (_, q) => if x.r.code = 45 then replayGo c ps recs l s (n + 1)
     else if badRun c s x (runRow c ps q s x) ≠ 0 then (none, n, badRun c s x (runRow c ps q s x))
     else replayGo c ps recs l (afterP s (runRow c ps q s x)) (n + 1)
def replayP (c : Cfg) (ps : List (List Ins)) (recs : List Rc7) (rows : List Rx) : Option MSt × Nat × Int :=
 if c.right then replayGo c ps recs rows emptyS 0 else (none, 0, 1)
theorem live_keys {s : MSt} (h : Few64 s) {ss : List Int} (hk : KeysOf s.blocks ss) : ss.length = liveP s := by
 unfold liveP
 have e : ss.Perm (((List.range 65).filter fun h : Nat => (s.blocks (h : Int)).isSome).map (fun h : Nat => (h : Int))) := by
  refine (List.perm_ext_iff_of_nodup hk.1 ?_).2 fun x => ?_
  ·refine List.Pairwise.map _ (fun a b hab => ?_) ((List.nodup_range (n := 65)).filter _)
   omega
  ·rw [hk.2 x, List.mem_map]
   constructor
   ·rintro ⟨hu, hs⟩
    have h2 := h x hs
    refine ⟨x.toNat, ?_, by omega⟩
    rw [List.mem_filter, List.mem_range]
    exact ⟨by omega, by rw [show ((x.toNat : Nat) : Int) = x by omega]; exact hs⟩
   ·rintro ⟨n, hn, rfl⟩
    rw [List.mem_filter] at hn
    have h2 := h _ hn.2
    exact ⟨⟨by omega, by omega⟩, hn.2⟩
 rw [e.length_eq, List.length_map]
theorem live_le (s : MSt) : liveP s ≤ 65 := by
 unfold liveP
 exact Nat.le_trans (List.length_filter_le _ _) (by simp)
structure ProgsIn (w : World) (B : Nat) (A : Option Addr) (n : Nat) (ps : List (List Ins)) : Prop where
 len : ps.length = n
 le : n ≤ maxLen
 at_ : ∀ k p, ps[k]? = some p → ∃ b o A' c', A = some ⟨b, o, none⟩ ∧ b < B ∧ w.cell? ⟨b, o + k, none⟩ = some (.slice A' p.length c') ∧ RdI w B A' p.length p ∧ p.length ≤ c'
theorem ProgsIn.keep {w w' : World} {B n : Nat} {A : Option Addr} {ps : List (List Ins)} (h : ProgsIn w B A n ps) (hk : ∀ p : Addr, p.block < B → w'.cell? p = w.cell? p) : ProgsIn w' B A n ps :=
 ⟨h.len, h.le, fun k p hp => by
  obtain ⟨b, o, A', c', e, hb, hc, hr, hl⟩ := h.at_ k p hp
  exact ⟨b, o, A', c', e, hb, (hk _ hb).trans hc, hr.keep hk, hl⟩⟩
theorem ProgsIn.below {w w' : World} {B n : Nat} {A : Option Addr} {ps : List (List Ins)} (h : ProgsIn w B A n ps) (hb : Below B w w') : ProgsIn w' B A n ps := h.keep fun _ hp => hb.cell hp
theorem ProgsIn.more {w : World} {B B' n : Nat} {A : Option Addr} {ps : List (List Ins)} (h : ProgsIn w B A n ps) (hB : B ≤ B') : ProgsIn w B' A n ps :=
 ⟨h.len, h.le, fun k p hp => by
  obtain ⟨b, o, A', c', e, hb, hc, hr, hl⟩ := h.at_ k p hp
  exact ⟨b, o, A', c', e, by omega, hc, hr.more hB, hl⟩⟩
def Rx.In (w : World) (B : Nat) (x : Rx) : Prop := ∃ A c, x.r.nv = .slice A x.news.length c ∧ RdU w B A x.news.length x.news ∧ x.news.length ≤ c
theorem Rx.In.keep {w w' : World} {B : Nat} {x : Rx} (h : x.In w B) (hk : ∀ p : Addr, p.block < B → w'.cell? p = w.cell? p) : x.In w' B := by
 obtain ⟨A, c, e, hr, hc⟩ := h
 exact ⟨A, c, e, hr.keep hk, hc⟩
theorem Rx.In.more {w : World} {B B' : Nat} {x : Rx} (h : x.In w B) (hB : B ≤ B') : x.In w B' := by
 obtain ⟨A, c, e, hr, hc⟩ := h
 exact ⟨A, c, e, hr.more hB, hc⟩
structure RowsIn (w : World) (B : Nat) (A : Option Addr) (n : Nat) (l : List Rx) : Prop where
 rows : RdW7 w B A n (l.map Rx.r)
 news : ∀ x ∈ l, x.In w B
theorem RowsIn.keep {w w' : World} {B n : Nat} {A : Option Addr} {l : List Rx} (h : RowsIn w B A n l) (hk : ∀ p : Addr, p.block < B → w'.cell? p = w.cell? p) : RowsIn w' B A n l :=
 ⟨h.rows.keep hk, fun x hx => (h.news x hx).keep hk⟩
theorem RowsIn.below {w w' : World} {B n : Nat} {A : Option Addr} {l : List Rx} (h : RowsIn w B A n l) (hb : Below B w w') : RowsIn w' B A n l := h.keep fun _ hp => hb.cell hp
theorem RowsIn.more {w : World} {B B' n : Nat} {A : Option Addr} {l : List Rx} (h : RowsIn w B A n l) (hB : B ≤ B') : RowsIn w B' A n l := ⟨h.rows.more hB, fun x hx => (h.news x hx).more hB⟩
theorem RowsIn.len {w : World} {B n : Nat} {A : Option Addr} {l : List Rx} (h : RowsIn w B A n l) : l.length = n := by
 have := h.rows.rwLen
 simpa using this
structure Rx.Ok (x : Rx) : Prop where
 row : x.r.Ok
 news : ∀ h ∈ x.news, U64 h
 few : x.news.length ≤ 1000
structure Rc7.Ok (q : Rc7) : Prop where
 key : KOk q.key
 args : ∀ a ∈ q.args, U64 a
set_option maxRecDepth 100000 in
set_option maxHeartbeats 1000000 in
theorem ocode_any (ps : List (List Ins)) (A : Option Addr) (n c : Nat) (k : Int) (w : World) (h : ProgsIn w w.heap.size A n ps) :
 Calls Try.prog 23 #[.slice A n c, .int .i64 k] w fun e w' => (∃ A' c', e = .returned (.slice A' (codeP ps k).length c') ∧ RdI w w.heap.size A' (codeP ps k).length (codeP ps k) ∧ (codeP ps k).length ≤ c') ∧ w' = w := by
 have h63 := h.le
 have HL := Lib.hid h.len
 have HP := Lib.hid h
 unfold maxLen at h63
 clear h
 go_enter Try.func23, Try.ntmps23
 by_cases h0 : k < 0
 ·have HE : Hid (codeP ps k = []) := by show _ = _; unfold codeP; rw [if_pos h0]
  go_wp2
  go_ret
  refine ⟨⟨none, 0, ?_, ?_, ?_⟩, rfl⟩
  ·rw [HE.out]; rfl
  ·rw [HE.out]; exact Rd.nil _ _ _ _
  ·rw [HE.out]; exact Nat.le_refl _
 ·by_cases h1 : (n : Int) ≤ k
  ·have HE : Hid (codeP ps k = []) := by
    show _ = _
    unfold codeP
    rw [if_neg h0, List.getD_eq_getElem?_getD, List.getElem?_eq_none (by rw [HL.out]; omega)]; rfl
   go_wp2
   go_ret
   refine ⟨⟨none, 0, ?_, ?_, ?_⟩, rfl⟩
   ·rw [HE.out]; rfl
   ·rw [HE.out]; exact Rd.nil _ _ _ _
   ·rw [HE.out]; exact Nat.le_refl _
  ·obtain ⟨j, rfl⟩ : ∃ j : Nat, k = j := ⟨k.toNat, by omega⟩
   have hj : j < ps.length := by rw [HL.out]; omega
   obtain ⟨b, o, A', c', rfl, hb, hc, hr, hl⟩ := HP.out.at_ j _ (List.getElem?_eq_getElem hj)
   have HE : Hid (codeP ps (j : Int) = ps[j]'hj) := by
    show _ = _
    unfold codeP
    rw [if_neg h0, List.getD_eq_getElem?_getD, Int.toNat_natCast, List.getElem?_eq_getElem hj]; rfl
   have HRr := Lib.hid hr
   have HLl := Lib.hid hl
   obtain ⟨m, hm⟩ : ∃ m, (ps[j]'hj).length = m := ⟨_, rfl⟩
   rw [hm] at hc HRr HLl
   have HM := Lib.hid hm
   clear hr hl hm
   go_wp2
   go_ret
   refine ⟨⟨A', c', ?_, ?_, ?_⟩, rfl⟩
   ·rw [HE.out, HM.out]; rfl
   ·rw [HE.out, HM.out]; exact HRr.out
   ·rw [HE.out, HM.out]; exact HLl.out
end Go.Proofs.Ytjggmimaolddkaa
namespace Go.Proofs.Ytjggmimaolddkaa
open Go.RowKit
set_option linter.unusedVariables false
section
variable {P : Program} {ops : Array Oper} {Q : Exit → Act → World → Prop} {md : Region.Mode} {S : World → Prop} {fuel : Nat} {listed : Array Bool} {a : Act} {w : World}
theorem comeH2 (i j : Nat) {oi oj : Oper} {op op' : Op} {ty ty' : TypeId} {d d' : Option Tmp} (hi : ops[i]? = some oi) (hop : oi.op = op) (hty : oi.type = ty) (hd : oi.dst = d)
 (hj : ops[j]? = some oj) (hop' : oj.op = op') (hty' : oj.type = ty') (hd' : oj.dst = d')
 (hr : Region.ready md ops listed = [i, j]) (hw : Region.wanted oi (yielded ops a.tmps) = true) (hw' : Region.wanted oj (yielded ops a.tmps) = true)
 (h : ∀ K' : Act → World → Prop, Shut (∀ a w, S w → (S w → wpAnyH P md ops Q S fuel (listed.setIfInBounds i true) a w) → K' a w) → Oper.wp P { bareOp op ty with dst := d } a w K' Q)
 (h' : ∀ K' : Act → World → Prop, Shut (∀ a w, S w → (S w → wpAnyH P md ops Q S fuel (listed.setIfInBounds j true) a w) → K' a w) → Oper.wp P { bareOp op' ty' with dst := d' } a w K' Q) : wpAnyH P md ops Q S (fuel + 1) listed a w := by
 subst hop hty hd hop' hty' hd'
 refine wpAnyH_ready hr (by simp) (AllReadyH.cons hi (fun K hK => ?_) (AllReadyH.cons hj (fun K hK => ?_) AllReadyH.nil))
 ·rw [if_pos hw]
  exact h K hK
 ·rw [if_pos hw']
  exact h' K hK
end
theorem StIn.other {w w' : World} {B n sb mb g : Nat} {s : MSt} {t : TypeId} {cs : Array Value} (h : StIn w B n sb mb s) (hd : Bk w g t cs) (hg : w.grownBy w' (some g)) (hne : sb ≠ g) : StIn w' B n sb mb s := by
 refine ⟨Bk.grown h.st hg (fun e => hne (by injection e with e; exact e.symm)), h.map.kept hg (fun e => ?_), h.roots, h.bs, h.bm⟩
 injection e with e
 subst e
 obtain ⟨D, ⟨es, clock, hb, _⟩, _⟩ := h.map
 unfold Bk at hd
 rw [hb] at hd
 injection hd with hd
 cases hd
end Go.Proofs.Ytjggmimaolddkaa
