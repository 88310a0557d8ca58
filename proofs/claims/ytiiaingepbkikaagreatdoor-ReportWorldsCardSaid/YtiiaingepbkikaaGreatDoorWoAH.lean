import Derived.Test.YtiiaingepbkikaaGreatDoorWoAG
import Derived.Deep.RegionHeld3
import Derived.Deep.MidRow
import Derived.Handy
import Derived.Test.YtiiaingepbkikaaGreatDoorWoAB
import Derived.Laws.CopyRow
import Derived.Lib.AppendZerosOnto
import Derived.Lib.Overlaps
import Derived.KernelRfl
namespace Go.Proofs.YtiiaingepbkikaaGreatDoor
open Go.RowKit
set_option linter.unusedVariables false
set_option linter.unusedSimpArgs false
theorem take_at {l : List Int} {a : Int} : ∀ {i : Nat}, i ≤ l.length → (∀ k x, l[k]? = some x → (k < i → x < a) ∧ (i ≤ k → a ≤ x)) → l.takeWhile (fun x => decide (x < a)) = l.take i ∧ l.dropWhile (fun x => decide (x < a)) = l.drop i := by
 induction l with
 | nil => intro i _ _; simp
 | cons y l ih =>
   intro i hi h
   rcases i with _ | i
   ·have h0 := (h 0 y rfl).2 (Nat.le_refl _)
    have : ¬ y < a := by omega
    simp [List.takeWhile_cons, List.dropWhile_cons, this]
   ·have h0 := (h 0 y rfl).1 (by omega)
    have h1 := ih (i := i) (by simpa using hi) (fun k x hx => by
     have := h (k + 1) x (by simpa using hx)
     exact ⟨fun hk => this.1 (by omega), fun hk => this.2 (by omega)⟩)
    simp [List.takeWhile_cons, List.dropWhile_cons, h0, h1.1, h1.2]
theorem up_lt {l : List Int} (h : Up l) {i j : Nat} {x y : Int} (hx : l[i]? = some x) (hy : l[j]? = some y) (hij : i < j) : x < y := by
 have hj := (List.getElem?_eq_some_iff.1 hy)
 have hi := (List.getElem?_eq_some_iff.1 hx)
 obtain ⟨hj, rfl⟩ := hj
 obtain ⟨hi, rfl⟩ := hi
 exact List.pairwise_iff_getElem.1 h i j hi hj hij
structure AtK (l : List Int) (a : Int) (i : Nat) (there : Bool) : Prop where
 le : i ≤ l.length
 take : l.takeWhile (fun x => decide (x < a)) = l.take i
 drop : l.dropWhile (fun x => decide (x < a)) = l.drop i
 is : there = true ↔ a ∈ l
 at_ : there = true → l[i]? = some a
theorem atK_of {l : List Int} {a : Int} (hu : Up l) {i : Nat} (hi : i ≤ l.length) (h : ∀ k x, l[k]? = some x → (k < i → x < a) ∧ (i ≤ k → a ≤ x)) : AtK l a i (decide (l[i]? = some a)) := by
 obtain ⟨h1, h2⟩ := take_at hi h
 refine ⟨hi, h1, h2, ?_, fun e => by simpa using e⟩
 constructor
 ·intro e
  exact List.mem_of_getElem? (by simpa using e)
 ·intro e
  obtain ⟨k, hk⟩ := List.mem_iff_getElem?.1 e
  have hk' := h k a hk
  have hik : i ≤ k := by
   rcases Nat.lt_or_ge k i with h' | h'
   ·have := hk'.1 h'; omega
   ·exact h'
  rcases Nat.lt_or_ge i k with h' | h'
  ·have hlt : i < l.length := Nat.lt_trans h' (List.getElem?_eq_some_iff.1 hk).1
   have hx := h i _ (List.getElem?_eq_getElem hlt)
   have := hx.2 (Nat.le_refl _)
   have := up_lt hu (List.getElem?_eq_getElem hlt) hk h'
   omega
  ·have : i = k := by omega
   subst this
   simpa using hk
def SearchU (l : List Int) (a : Int) (w : World) (e : Ending) (w' : World) : Prop := (∃ (i : Nat) (there : Bool), e = .returned (.tuple #[.int .i64 (i : Int), .bool there]) ∧ AtK l a i there) ∧ w' = w
set_option maxRecDepth 100000 in
set_option maxHeartbeats 4000000 in
theorem search_any (l : List Int) (A : Option Addr) (n c : Nat) (a : Int) (w : World) (hr : RdU w w.heap.size A n l) (hu : Up l) (hn : n ≤ 1000) :
 Calls Tryz.prog 81 #[.slice A n c, .int .u64 a] w (SearchU l a w) := by
 have HR := Lib.hid hr
 have HL := Lib.hid hr.u64Len
 have HU := Lib.hid hu
 clear hr hu
 go_enter Tryz.func81, Tryz.ntmps81
 go_wp2
 go_loopw [7, 8] (fun i j wr => ∃ p q : Nat, (p ≤ q ∧ q ≤ n ∧ i = .int .i64 p ∧ j = .int .i64 q ∧ wr = w) ∧ Hid (∀ k x, l[k]? = some x → (k < p → x < a) ∧ (q ≤ k → a ≤ x))) (fun i j _ => (intOf j).toNat - (intOf i).toNat)
 case atStart => exact ⟨0, n, ⟨by omega, by omega, rfl, rfl, rfl⟩, fun k x hx => ⟨fun h => by omega, fun h => by have := (List.getElem?_eq_some_iff.1 hx).1; have := HL.out; omega⟩⟩
 case round =>
  obtain ⟨p, q, ⟨hp, hq, rfl, rfl, hwr⟩, H⟩ := hrel
  subst hwr
  by_cases hpq : p < q
  ·obtain ⟨b, o, rfl, hb, hc⟩ := HR.out.at_ (by omega)
   obtain ⟨m, hm⟩ : ∃ m, (p + q) / 2 = m := ⟨_, rfl⟩
   have hmq : p ≤ m ∧ m < q := by omega
   obtain ⟨x, hx⟩ : ∃ x, l[m]? = some x := ⟨_, List.getElem?_eq_getElem (by rw [HL.out]; omega)⟩
   have c0 : wr.cell? ⟨b, o + (p + q) / 2, none⟩ = some (.int .u64 x) := by rw [hm]; exact hc m _ (by rw [List.getElem?_map, hx]; rfl)
   have HX := Lib.hid hx
   have HM := Lib.hid hm
   clear hc hx hm
   by_cases hxa : x < a
   ·go_wp2
    go_roundw
    case measure => simp [intOf]; have := HM.out; omega
    case rel =>
     refine ⟨m + 1, q, ⟨by omega, hq, by rw [show ((p : Int) + (q : Int)) / 2 + 1 = ((m + 1 : Nat) : Int) by have := HM.out; omega], rfl, trivial⟩, fun k y hy => ⟨fun hk => ?_, (H.out k y hy).2⟩⟩
     rcases Nat.lt_or_ge k m with h | h
     ·have := up_lt HU.out hy HX.out h; omega
     ·have : k = m := by omega
      subst this
      have := HX.out
      rw [hy] at this
      injection this with this
      omega
   ·go_wp2
    go_roundw
    case measure => simp [intOf]; have := HM.out; omega
    case rel =>
     refine ⟨p, m, ⟨by omega, by omega, rfl, by rw [show ((p : Int) + (q : Int)) / 2 = ((m : Nat) : Int) by have := HM.out; omega], trivial⟩, fun k y hy => ⟨(H.out k y hy).1, fun hk => ?_⟩⟩
     rcases Nat.lt_or_ge m k with h | h
     ·have := up_lt HU.out HX.out hy h; omega
     ·have : k = m := by omega
      subst this
      have := HX.out
      rw [hy] at this
      injection this with this
      omega
  ·obtain rfl : p = q := by omega
   have HA := Lib.hid (atK_of HU.out (by rw [HL.out]; exact hq) H.out)
   by_cases hlt : p < n
   ·obtain ⟨b, o, rfl, hb, hc⟩ := HR.out.at_ (by omega)
    obtain ⟨x, hx⟩ : ∃ x, l[p]? = some x := ⟨_, List.getElem?_eq_getElem (by rw [HL.out]; omega)⟩
    have c0 : wr.cell? ⟨b, o + p, none⟩ = some (.int .u64 x) := hc p _ (by rw [List.getElem?_map, hx]; rfl)
    have HX := Lib.hid hx
    clear hc hx
    by_cases hxa : x = a
    ·have HT : Hid (decide (l[p]? = some a) = true) := by show _ = _; rw [HX.out, hxa]; simp
     subst hxa
     go_wp2
     go_ret2
     exact ⟨⟨p, _, rfl, by have := HA.out; rw [HT.out] at this; simpa using this⟩, rfl⟩
    ·have HT : Hid (decide (l[p]? = some a) = false) := by show _ = _; rw [HX.out]; simpa using hxa
     have hxa2 : (x == a) = false := beq_eq_false_iff_ne.2 hxa
     go_wp2
     go_ret2
     exact ⟨⟨p, _, rfl, by have := HA.out; rw [HT.out] at this; simpa using this⟩, rfl⟩
   ·obtain rfl : p = n := by omega
    have HT : Hid (decide (l[p]? = some a) = false) := by show _ = _; rw [List.getElem?_eq_none (by rw [HL.out]; exact Nat.le_refl _)]; rfl
    go_wp2
    go_ret2
    exact ⟨⟨p, _, rfl, by have := HA.out; rw [HT.out] at this; simpa using this⟩, rfl⟩
end Go.Proofs.YtiiaingepbkikaaGreatDoor
namespace Go.Proofs.YtiiaingepbkikaaGreatDoor
open Go.RowKit
set_option linter.unusedVariables false
abbrev bareOp (op : Op) (ty : TypeId) : Oper := { dst := none, op := op, type := ty, pos := "", after := #[], guard := none }
theorem execOp_bare (ρ : Operand → Value) (o : Oper) : execOp ρ o = execOp ρ (bareOp o.op o.type) := rfl
section
variable {P : Program} {ops : Array Oper} {Q : Exit → Act → World → Prop} {md : Region.Mode} {S : World → Prop} {fuel : Nat} {listed : Array Bool} {a : Act} {w : World}
theorem takeH (i : Nat) {oi : Oper} {op : Op} {ty : TypeId} {d : Tmp} {v : Value} (hi : ops[i]? = some oi) (hop : oi.op = op) (hty : oi.type = ty) (hd : oi.dst = some d)
 (hs : Region.noSelect ops = true) (hf : Region.free md ops listed i = true) (hr : (Region.ready md ops listed).contains i = true)
 (hQ : ∀ c (a : Act) (d : Tmp) (v : Value) w, Q (.panic c) (a.put (some d) v) w → Q (.panic c) a w) (hw : Region.wanted oi (yielded ops a.tmps) = true) (hS : S w)
 (hy : ∀ w, S w → (execOp a.eval (bareOp op ty)).run P w = .ok (.value v) w)
 (h : wpAnyH P md ops Q S fuel (listed.setIfInBounds i true) (a.put (some d) v) w) : wpAnyH P md ops Q S (fuel + 1) listed a w := by
 subst hop hty
 refine wpAnyH_take hi hs hf hr (fun c a w hq => hQ c a d v w (by rw [hd] at hq; exact hq)) (.inl ⟨hw, fun w1 h1 => ?_⟩) hS (by rw [hd]; exact h)
 rw [execOp_bare]
 exact hy w1 h1
theorem skipH (i : Nat) {oi : Oper} {d : Tmp} (hi : ops[i]? = some oi) (hd : oi.dst = some d)
 (hs : Region.noSelect ops = true) (hf : Region.free md ops listed i = true) (hr : (Region.ready md ops listed).contains i = true)
 (hQ : ∀ c (a : Act) (d : Tmp) (v : Value) w, Q (.panic c) (a.put (some d) v) w → Q (.panic c) a w) (hw : Region.wanted oi (yielded ops a.tmps) = false) (hS : S w)
 (h : wpAnyH P md ops Q S fuel (listed.setIfInBounds i true) (a.put (some d) undef) w) : wpAnyH P md ops Q S (fuel + 1) listed a w :=
 wpAnyH_take hi hs hf hr (fun c a w hq => hQ c a d _ w (by rw [hd] at hq; exact hq)) (.inr ⟨hw, rfl⟩) hS (by rw [hd]; exact h)
theorem loadH (i : Nat) {oi : Oper} {x : Operand} {d : Tmp} {ty : TypeId} (hi : ops[i]? = some oi) (hop : oi.op = .load ty x) (hd : oi.dst = some d)
 (hs : Region.noSelect ops = true) (hf : Region.free md ops listed i = true) (hr : (Region.ready md ops listed).contains i = true)
 (hQ : ∀ c (a : Act) (d : Tmp) (v : Value) w, Q (.panic c) (a.put (some d) v) w → Q (.panic c) a w) (hw : Region.wanted oi (yielded ops a.tmps) = true) (hS : S w)
 {b o : Nat} (hx : a.eval x = .pointer (some ⟨b, o, none⟩)) (cs : Array Value) {t : TypeDesc} (hu : P.underlying ty = some t) (ht : t.isRow = true) (hz : (P.info? ty).map (·.size) = some cs.size)
 (hc : ∀ w, S w → w.rangeAt b o cs.toList)
 (h : wpAnyH P md ops Q S fuel (listed.setIfInBounds i true) (a.put (some d) (.agg cs)) w) : wpAnyH P md ops Q S (fuel + 1) listed a w := by
 refine wpAnyH_take hi hs hf hr (fun c a w hq => hQ c a d _ w (by rw [hd] at hq; exact hq)) (yieldsIf_load_mid hw ty x hop b o hx cs.toList _ hc hu ht (by rw [hz, Array.length_toList])) hS ?_
 rw [hd]
 simpa using h
theorem comeH (i : Nat) {oi : Oper} {op : Op} {ty : TypeId} {d : Option Tmp} (hi : ops[i]? = some oi) (hop : oi.op = op) (hty : oi.type = ty) (hd : oi.dst = d)
 (hr : Region.ready md ops listed = [i]) (hw : Region.wanted oi (yielded ops a.tmps) = true)
 (h : ∀ K' : Act → World → Prop, Shut (∀ a w, S w → (S w → wpAnyH P md ops Q S fuel (listed.setIfInBounds i true) a w) → K' a w) → Oper.wp P { bareOp op ty with dst := d } a w K' Q) : wpAnyH P md ops Q S (fuel + 1) listed a w := by
 subst hop hty hd
 refine wpAnyH_ready hr (by simp) (AllReadyH.cons hi (fun K hK => ?_) AllReadyH.nil)
 rw [if_pos hw]
 exact h K hK
end
end Go.Proofs.YtiiaingepbkikaaGreatDoor
namespace Go.Proofs.YtiiaingepbkikaaGreatDoor
open Go.RowKit
set_option linter.unusedVariables false
theorem wp_app {P : Program} {w : World} {a : Act} {K : Act → World → Prop} {Q : Exit → Act → World → Prop} {ty : TypeId} {d : Option Tmp} (s x : Operand) (t : TypeId)
 (base : Nat) (e : TypeId) (i : TypeInfo) (z : Value) (size bytes : Nat) (ht : P.underlying t = some (.slice e)) (hi : P.info? e = some i) (hz : i.zero = some z)
 (hsize : i.size = size) (hby : i.bytes = bytes) (hzs : z.cells.size = size) (hsz : 0 < size)
 (v : Value) (n : Nat) (xs : List Value) (hs : a.eval s = v) (hown : w.ownsRow base e size v n xs)
 (B : Nat) (A : Option Addr) (m c : Nat) (news : List Value) (hx : a.eval x = .slice A m c) (hr : Rd w B size A m news) (h1 : ∀ u ∈ news, u.oneCell' = true)
 (h63 : n + m ≤ maxLen) (hbytes : (n + m) * bytes ≤ 140737488355328) (hbase : base ≤ w.heap.size)
 (h : ∀ v' w', w'.ownsRow base e size v' (n + m) (xs ++ news) → w.grownBy w' v.ownBlock → (v'.ownBlock = v.ownBlock ∨ v'.ownBlock = some w.heap.size) → K (a.put d v') w') :
 Oper.wp P { bareOp (.call { callee := .builtin .append, args := #[s, x], argTypes := #[t, t] }) ty with dst := d } a w K Q := by
 obtain ⟨v', w', hrun, h2, h3, h4⟩ := run_app (P := P) w base t ty e i z size bytes ht hi hz hsize hby hzs hsz v n xs hown B A m c news hr h1 h63 hbytes hbase
 unfold Oper.wp execOp
 simp only [resolve, invoke, builtin, Sem.run_bind, Sem.run_pure, Result.andThen_ok, List.map_toArray, List.map_cons, List.map_nil, hs, hx, hrun]
 exact h v' w' h2 h3 h4
theorem own_head {w : World} {base : Nat} {e : TypeId} {size n c k : Nat} {A : Option Addr} {xs : List Value} (h : w.ownsRow base e size (.slice A n c) n xs) (hk : k ≤ n) (hs : 0 < size) (hA : A ≠ none) : w.ownsRow base e size (.slice A k c) k (xs.take (k * size)) := by
 have hle : k * size ≤ n * size := Nat.mul_le_mul_right _ hk
 rcases h with ⟨hl, ⟨hv, _⟩ | ⟨g, cap, cur, hv, hb, hg, hnc, hcm, hcs, hx⟩⟩
 ·injection hv with hv
  exact absurd hv hA
 ·injection hv with h1 h2 h3
  subst h1 h3
  refine ⟨by rw [List.length_take, hl]; omega, .inr ⟨g, c, cur, rfl, hb, hg, by omega, hcm, hcs, ?_⟩⟩
  rw [← hx, List.take_take, Nat.min_eq_left hle]
end Go.Proofs.YtiiaingepbkikaaGreatDoor
namespace Go.Proofs.YtiiaingepbkikaaGreatDoor
open Go.RowKit
set_option linter.unusedVariables false
section
variable {P : Program} {ops : Array Oper} {Q : Exit → Act → World → Prop} {md : Region.Mode} {S : World → Prop} {fuel : Nat} {listed : Array Bool} {a : Act} {w : World}
theorem comeH2 (i j : Nat) {oi oj : Oper} {op op' : Op} {ty ty' : TypeId} {d d' : Option Tmp} (hi : ops[i]? = some oi) (hop : oi.op = op) (hty : oi.type = ty) (hd : oi.dst = d)
 (hj : ops[j]? = some oj) (hop' : oj.op = op') (hty' : oj.type = ty') (hd' : oj.dst = d')
 (hr : Region.ready md ops listed = [i, j]) (hw : Region.wanted oi (yielded ops a.tmps) = true) (hw' : Region.wanted oj (yielded ops a.tmps) = true)
 (h : ∀ K' : Act → World → Prop, Shut (∀ a w, S w → (S w → wpAnyH P md ops Q S fuel (listed.setIfInBounds i true) a w) → K' a w) → Oper.wp P { bareOp op ty with dst := d } a w K' Q)
 (h' : ∀ K' : Act → World → Prop, Shut (∀ a w, S w → (S w → wpAnyH P md ops Q S fuel (listed.setIfInBounds j true) a w) → K' a w) → Oper.wp P { bareOp op' ty' with dst := d' } a w K' Q) : wpAnyH P md ops Q S (fuel + 1) listed a w := by
 subst hop hty hd hop' hty' hd'
 refine wpAnyH_ready hr (by simp) (AllReadyH.cons hi (fun K hK => ?_) (AllReadyH.cons hj (fun K hK => ?_) AllReadyH.nil))
 ·rw [if_pos hw]
  exact h K hK
 ·rw [if_pos hw']
  exact h' K hK
end
section
variable {P : Program} {ops : Array Oper} {Q : Exit → Act → World → Prop} {md : Region.Mode} {S : World → Prop} {fuel : Nat} {listed : Array Bool} {a : Act} {w : World}
theorem comeH3 (i j m : Nat) {oi oj om : Oper} {op op' op'' : Op} {ty ty' ty'' : TypeId} {d d' d'' : Option Tmp} (hi : ops[i]? = some oi) (hop : oi.op = op) (hty : oi.type = ty) (hd : oi.dst = d)
 (hj : ops[j]? = some oj) (hop' : oj.op = op') (hty' : oj.type = ty') (hd' : oj.dst = d') (hm : ops[m]? = some om) (hop'' : om.op = op'') (hty'' : om.type = ty'') (hd'' : om.dst = d'')
 (hr : Region.ready md ops listed = [i, j, m]) (hw : Region.wanted oi (yielded ops a.tmps) = true) (hw' : Region.wanted oj (yielded ops a.tmps) = true) (hw'' : Region.wanted om (yielded ops a.tmps) = true)
 (h : ∀ K' : Act → World → Prop, Shut (∀ a w, S w → (S w → wpAnyH P md ops Q S fuel (listed.setIfInBounds i true) a w) → K' a w) → Oper.wp P { bareOp op ty with dst := d } a w K' Q)
 (h' : ∀ K' : Act → World → Prop, Shut (∀ a w, S w → (S w → wpAnyH P md ops Q S fuel (listed.setIfInBounds j true) a w) → K' a w) → Oper.wp P { bareOp op' ty' with dst := d' } a w K' Q)
 (h'' : ∀ K' : Act → World → Prop, Shut (∀ a w, S w → (S w → wpAnyH P md ops Q S fuel (listed.setIfInBounds m true) a w) → K' a w) → Oper.wp P { bareOp op'' ty'' with dst := d'' } a w K' Q) : wpAnyH P md ops Q S (fuel + 1) listed a w := by
 subst hop hty hd hop' hty' hd' hop'' hty'' hd''
 refine wpAnyH_ready hr (by simp) (AllReadyH.cons hi (fun K hK => ?_) (AllReadyH.cons hj (fun K hK => ?_) (AllReadyH.cons hm (fun K hK => ?_) AllReadyH.nil)))
 ·rw [if_pos hw]
  exact h K hK
 ·rw [if_pos hw']
  exact h' K hK
 ·rw [if_pos hw'']
  exact h'' K hK
end
theorem grown_setCell (w : World) (a : Addr) (u : Value) : w.grownBy (w.setCell a u) (some a.block) :=
 ⟨rfl, rfl, rfl, by simp [World.setCell], fun i hi hne => by
  simp only [World.setCell]
  rw [Array.getElem?_modify, if_neg (fun e => hne (by rw [e]))]⟩
theorem own_set {w : World} {base : Nat} {e : TypeId} {size n : Nat} {v : Value} {xs : List Value} (h : w.ownsRow base e size v n xs) {p : Addr} (hp : p.block < base) (u : Value) : (w.setCell p u).ownsRow base e size v n xs :=
 h.kept (row := some p.block) (grown_setCell w p u) (by
  cases hv : v.ownBlock with
  | none => exact .inl rfl
  | some b => exact .inr (by have := (h.lt b hv).1; intro e; injection e with e; omega))
theorem bk_set_ne {w : World} {g : Nat} {t : TypeId} {cs : Array Value} (h : Bk w g t cs) {p : Addr} {u : Value} (hp : p.block ≠ g) : Bk (w.setCell p u) g t cs := by
 unfold Bk at h ⊢
 simp only [World.setCell]
 rw [Array.getElem?_modify, if_neg hp]
 exact h
theorem Rd.of_own' {w : World} {base size n : Nat} {xs : List Value} {e : TypeId} {A : Option Addr} {m c : Nat} (h : w.ownsRow base e size (.slice A m c) n xs) : Rd w w.heap.size size A n xs := by
 obtain ⟨A', c', e, hr⟩ := Rd.of_own h
 injection e with e1 _ _
 rw [e1]; exact hr
end Go.Proofs.YtiiaingepbkikaaGreatDoor
namespace Go.Proofs.YtiiaingepbkikaaGreatDoor
open Go.RowKit
set_option linter.unusedVariables false
set_option linter.unusedSimpArgs false
section
variable {P : Program}
theorem run_copyK (w : World) (dT sT ty elem : TypeId) (i : TypeInfo) (g o dLen dCap : Nat) (a : Addr) (sLen sCap k : Nat) (cur : Array Value) (t : TypeId) (cs : List Value)
 (hu : P.underlying dT = some (.slice elem)) (hi : P.info? elem = some i) (hg : w.heap[g]? = some (.cells cur t (0, 0))) (hk : k = Nat.min sLen dLen) (hn : cs.length = k * i.size)
 (hsrc : ∀ j v, cs[j]? = some v → w.cell? (a.add j) = some v) (hfit : o + cs.length ≤ cur.size) (h1 : ∀ v ∈ cs, v.oneCell' = true) :
 (Builtin.copy_ #[dT, sT] ty #[.slice (some ⟨g, o, none⟩) dLen dCap, .slice (some a) sLen sCap]).run P w =
   .ok (goInt k) (w.setRow g (cur.toList.take o ++ cs ++ cur.toList.drop (o + cs.length)).toArray) := by
 have hl := run_loadCells_list (P := P) w a cs hsrc
 rw [hn] at hl
 have hst := run_storeCells_at P g o t cs 0 cur w hg (by simpa using hfit) h1
 simp [Builtin.copy_, run_underlying hu, Builtin.lenOf, Builtin.firstCells, sizeOf, typeInfo, hi, ← hk, hl, hst]
theorem wp_copyK {w w' : World} {a : Act} {K : Act → World → Prop} {Q : Exit → Act → World → Prop} {ty : TypeId} {d : Option Tmp} (x y : Operand) (t u : TypeId) (v1 v2 v' : Value) (hx : a.eval x = v1) (hy : a.eval y = v2)
 (hr : (Builtin.copy_ #[t, u] ty #[v1, v2]).run P w = .ok v' w') (h : K (a.put d v') w') :
 Oper.wp P { bareOp (.call { callee := .builtin .copy, args := #[x, y], argTypes := #[t, u] }) ty with dst := d } a w K Q := by
 unfold Oper.wp execOp
 simp only [resolve, invoke, builtin, Sem.run_bind, Sem.run_pure, Result.andThen_ok, List.map_toArray, List.map_cons, List.map_nil, hx, hy, hr]
 exact h
theorem run_clear1 (w : World) (dT ty elem : TypeId) (i : TypeInfo) (z : Value) (zs : List Value) (hzs : (Builtin.zeroCells z.cells 1).toList = zs) (m : Nat) (hm : m = 1) (g o dCap : Nat) (cur : Array Value) (t : TypeId)
 (hu : P.underlying dT = some (.slice elem)) (hi : P.info? elem = some i) (hz : i.zero = some z) (hg : w.heap[g]? = some (.cells cur t (0, 0))) (hfit : o + zs.length ≤ cur.size) (h1 : ∀ v ∈ zs, v.oneCell' = true) :
 (Builtin.clear_ #[dT] ty #[.slice (some ⟨g, o, none⟩) m dCap]).run P w =
   .ok (.tuple #[]) (w.setRow g (cur.toList.take o ++ zs ++ cur.toList.drop (o + zs.length)).toArray) := by
 subst hzs hm
 have hst := run_storeCells_at P g o t (Builtin.zeroCells z.cells 1).toList 0 cur w hg (by simpa using hfit) h1
 have hzv : (zeroValue elem).run P w = .ok z w := by simp [zeroValue, typeInfo, hi, hz]
 unfold Builtin.clear_
 simp only [Sem.run_bind, Sem.run_pure, List.getElem?_toArray, List.getElem?_cons_zero, run_underlying hu, Result.andThen_ok, hzv]
 simp only [Nat.add_zero] at hst
 rw [hst]
 rfl
theorem cut_head (T : TypeId) (hT : P.underlying T = some (.slice (P.elem T))) {size : Nat} (hs : ∀ W : World, (sizeOf (P.elem T)).run P W = .ok size W) (A : Option Addr) (n c h : Nat) (z : Int) (hz : z = h) (hh : h ≤ c) :
 ∀ W : World, (Instr.sliceAt T (.slice A n c) none (some (.int .i64 z)) none).run P W = .ok (.slice A h c) W := by
 intro W
 subst hz
 rw [run_sliceAt_slice W T _ _ _ _ hT, run_slice_h W T A n c hT .i64 h (by omega) (by omega), hs]
 by_cases hc : c = 0
 ·simp [Result.andThen, sliced, hc]
 ·simp [Result.andThen, sliced, hc, Addr.add]
end
theorem own_open {w : World} {base size n c : Nat} {e : TypeId} {A : Option Addr} {xs : List Value} (h : w.ownsRow base e size (.slice A n c) n xs) (hA : A ≠ none) :
 ∃ g cur, A = some ⟨g, 0, none⟩ ∧ base ≤ g ∧ w.heap[g]? = some (.cells cur e (0, 0)) ∧ n ≤ c ∧ c ≤ maxLen ∧ cur.size = c * size ∧ cur.toList.take (n * size) = xs := by
 rcases h.2 with ⟨hv, _⟩ | ⟨g, cap, cur, hv, hb, hg, hnc, hcm, hcs, hx⟩
 ·injection hv with hv; exact absurd hv hA
 ·injection hv with h1 _ h3
  subst h3
  exact ⟨g, cur, h1, hb, hg, hnc, hcm, hcs, hx⟩
theorem own_shut {w : World} {base size n c g : Nat} {e : TypeId} {cur : Array Value} {xs : List Value} (hb : base ≤ g) (hg : w.heap[g]? = some (.cells cur e (0, 0))) (hnc : n ≤ c) (hcm : c ≤ maxLen) (hcs : cur.size = c * size) (hx : cur.toList.take (n * size) = xs) :
 w.ownsRow base e size (.slice (some ⟨g, 0, none⟩) n c) n xs := by
 refine ⟨?_, .inr ⟨g, c, cur, rfl, hb, hg, hnc, hcm, hcs, hx⟩⟩
 rw [← hx, List.length_take, Array.length_toList, hcs]
 exact Nat.min_eq_left (Nat.mul_le_mul_right _ hnc)
theorem grown_setRow (w : World) (g : Nat) (cs : Array Value) : w.grownBy (w.setRow g cs) (some g) :=
 ⟨rfl, rfl, rfl, by simp [World.setRow], fun i hi hne => setRow_other w g i cs (fun e => hne (by rw [e]))⟩
end Go.Proofs.YtiiaingepbkikaaGreatDoor
namespace Go.Proofs.YtiiaingepbkikaaGreatDoor
open Go.RowKit
set_option linter.unusedVariables false
theorem pS : (∀ {α : Type} (l : List α) (i : Nat) (a : α), l.toArray.setIfInBounds i a = (l.set i a).toArray) ∧ (∀ {α : Type} (x : α) (l : List α) (a : α), (x :: l).set 0 a = a :: l) ∧ (∀ {α : Type} (x : α) (l : List α) (n : Nat) (a : α), (x :: l).set (n + 1) a = x :: l.set n a) :=
 ⟨fun l i a => List.setIfInBounds_toArray .., fun _ _ _ => rfl, fun _ _ _ _ => rfl⟩
section
variable {P : Program} {ops : Array Oper} {Q : Exit → Act → World → Prop} {md : Region.Mode} {S : World → Prop} {fuel : Nat} {listed : Array Bool} {a : Act} {w : World}
theorem takeA (i : Nat) {oi : Oper} {op : Op} {ty : TypeId} {d : Tmp} {v : Value} (h : wpAnyH P md ops Q S fuel (listed.setIfInBounds i true) (a.put (some d) v) w)
 (hi : ops[i]? = some oi := by rfl) (hop : oi.op = op := by rfl) (hty : oi.type = ty := by rfl) (hd : oi.dst = some d := by rfl)
 (hs : Region.noSelect ops = true := by kernel_rfl) (hf : Region.free md ops listed i = true := by kernel_rfl) (hr : (Region.ready md ops listed).contains i = true := by kernel_rfl)
 (hQ : ∀ c (a : Act) (d : Tmp) (v : Value) w, Q (.panic c) (a.put (some d) v) w → Q (.panic c) a w := by exact fun _ _ _ _ _ h => h) (hw : Region.wanted oi (yielded ops a.tmps) = true := by rfl) (hS : S w := by assumption)
 (hy : ∀ w, S w → (execOp a.eval (bareOp op ty)).run P w = .ok (.value v) w := by (intro w hSw; (try dsimp only at hSw); go_split_ands; go_simp; try with_reducible rfl)) : wpAnyH P md ops Q S (fuel + 1) listed a w :=
 takeH i hi hop hty hd hs hf hr hQ hw hS hy h
theorem skipA (i : Nat) {oi : Oper} {d : Tmp} (h : wpAnyH P md ops Q S fuel (listed.setIfInBounds i true) (a.put (some d) undef) w) (hi : ops[i]? = some oi := by rfl) (hd : oi.dst = some d := by rfl)
 (hs : Region.noSelect ops = true := by kernel_rfl) (hf : Region.free md ops listed i = true := by kernel_rfl) (hr : (Region.ready md ops listed).contains i = true := by kernel_rfl)
 (hQ : ∀ c (a : Act) (d : Tmp) (v : Value) w, Q (.panic c) (a.put (some d) v) w → Q (.panic c) a w := by exact fun _ _ _ _ _ h => h) (hw : Region.wanted oi (yielded ops a.tmps) = false := by rfl) (hS : S w := by assumption) : wpAnyH P md ops Q S (fuel + 1) listed a w :=
 skipH i hi hd hs hf hr hQ hw hS h
theorem comeA (i : Nat) {oi : Oper} {op : Op} {ty : TypeId} {d : Option Tmp}
 (h : ∀ K' : Act → World → Prop, Shut (∀ a w, S w → (S w → wpAnyH P md ops Q S fuel (listed.setIfInBounds i true) a w) → K' a w) → Oper.wp P { bareOp op ty with dst := d } a w K' Q)
 (hi : ops[i]? = some oi := by rfl) (hop : oi.op = op := by rfl) (hty : oi.type = ty := by rfl) (hd : oi.dst = d := by rfl)
 (hr : Region.ready md ops listed = [i] := by kernel_rfl) (hw : Region.wanted oi (yielded ops a.tmps) = true := by rfl) : wpAnyH P md ops Q S (fuel + 1) listed a w :=
 comeH i hi hop hty hd hr hw h
theorem loadA (i : Nat) {oi : Oper} {x : Operand} {d : Tmp} {ty : TypeId} {b o : Nat} (cs : Array Value) {t : TypeDesc} (hu : P.underlying ty = some t) (ht : t.isRow = true) (hz : (P.info? ty).map (·.size) = some cs.size)
 (hc : ∀ w, S w → w.rangeAt b o cs.toList) (h : wpAnyH P md ops Q S fuel (listed.setIfInBounds i true) (a.put (some d) (.agg cs)) w)
 (hi : ops[i]? = some oi := by rfl) (hop : oi.op = .load ty x := by rfl) (hd : oi.dst = some d := by rfl)
 (hs : Region.noSelect ops = true := by kernel_rfl) (hf : Region.free md ops listed i = true := by kernel_rfl) (hr : (Region.ready md ops listed).contains i = true := by kernel_rfl)
 (hQ : ∀ c (a : Act) (d : Tmp) (v : Value) w, Q (.panic c) (a.put (some d) v) w → Q (.panic c) a w := by exact fun _ _ _ _ _ h => h) (hw : Region.wanted oi (yielded ops a.tmps) = true := by rfl) (hS : S w := by assumption)
 (hx : a.eval x = .pointer (some ⟨b, o, none⟩) := by rfl) : wpAnyH P md ops Q S (fuel + 1) listed a w :=
 loadH i hi hop hd hs hf hr hQ hw hS hx cs hu ht hz hc h
end
end Go.Proofs.YtiiaingepbkikaaGreatDoor
