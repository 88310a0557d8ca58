/-
  Texts of one proof, joined (wip/gen/pack.py): RdsD, LawA7, OpenU.
-/
import Derived.Test.YthdlihiehfkceaaDoorPtGAD
import Derived.BigQuiet
import Derived.Test.YthdlihiehfkceaaDoorPtBAB
import Derived.Test.YthdlihiehfkceaaDoorPtAI
import Derived.Test.YthdlihiehfkceaaDoorShelf
import Derived.Lib.LaidU8T
namespace Go.Proofs.YthdlihiehfkceaaDoor
open Go.RowKit
set_option linter.unusedVariables false

theorem r_info_str : (Tryd.prog.info? 9).map (fun i => (i.zero, i.size, i.bytes)) = some (some (.string ⟨#[]⟩), 1, 16) := by kernel_rfl
theorem r_info_lab : (Tryd.prog.info? 95).map (fun i => (i.zero, i.size, i.bytes)) = some (some (.agg #[.string ⟨#[]⟩, .int .i64 0]), 2, 24) := by kernel_rfl
def strCells (r : List ByteArray) : List Value := r.map fun x => .string x
theorem strCells_one (r : List ByteArray) : ∀ u ∈ strCells r, u.oneCell' = true := by
  intro u hu
  obtain ⟨x, _, rfl⟩ := List.mem_map.1 hu
  rfl
theorem labCells_one (r : List (ByteArray × Nat)) : ∀ u ∈ labCells r, u.oneCell' = true := by
  intro u hu
  obtain ⟨x, _, hx⟩ := List.mem_flatMap.1 hu
  simp only [List.mem_cons, List.not_mem_nil, or_false] at hx
  rcases hx with rfl | rfl <;> rfl
theorem lines_end : ∀ (l cur : List Tok), (∀ t ∈ cur, t.kind ≠ 3) → ∀ ln ∈ linesGo l cur, ∀ t ∈ ln, t.kind ≠ 3
  | [], cur, hc, ln, hln, t, ht => by
    rw [linesGo] at hln
    split at hln
    · cases hln
    · rw [List.mem_singleton.1 hln] at ht; exact hc t ht
  | x :: l, cur, hc, ln, hln, t, ht => by
    rw [linesGo] at hln
    split at hln
    · rcases List.mem_cons.1 hln with rfl | hln
      · exact hc t ht
      · exact lines_end l [] (fun t ht => nomatch ht) ln hln t ht
    · rename_i hx
      refine lines_end l (cur ++ [x]) (fun t ht => ?_) ln hln t ht
      rcases List.mem_append.1 ht with h | h
      · exact hc t h
      · rw [List.mem_singleton.1 h]; exact hx
theorem linesGo_len2 : ∀ (l cur : List Tok), ∀ ln ∈ linesGo l cur, ln.length ≤ cur.length + l.length
  | [], cur, ln, hln => by
    rw [linesGo] at hln
    split at hln
    · cases hln
    · rw [List.mem_singleton.1 hln]; simp
  | x :: l, cur, ln, hln => by
    rw [linesGo] at hln
    split at hln
    · rcases List.mem_cons.1 hln with rfl | hln
      · simp
      · have := linesGo_len2 l [] ln hln; simp at this ⊢; omega
    · have := linesGo_len2 l (cur ++ [x]) ln hln; simp at this ⊢; omega
theorem r_own_ne {w : World} {base base' size size' n n' : Nat} {e e' : TypeId} {v v' : Value} {xs xs' : List Value} (h : w.ownsRow base e size v n xs) (h' : w.ownsRow base' e' size' v' n' xs') (hne : e ≠ e') : v.ownBlock = none ∨ v.ownBlock ≠ v'.ownBlock := by
  rcases h.2 with ⟨rfl, _⟩ | ⟨g, cap, cur, rfl, _, hg, _⟩
  · exact .inl rfl
  · refine .inr fun hh => ?_
    rcases h'.2 with ⟨rfl, _⟩ | ⟨g', cap', cur', rfl, _, hg', _⟩
    · simp [Value.ownBlock] at hh
    · obtain rfl : g = g' := by simpa [Value.ownBlock] using hh
      rw [hg] at hg'
      injection hg' with hg'
      injection hg' with _ hg' _
      exact hne hg'
/-- The reference's rows while it reads. -/
structure RfSt (w : World) (base : Nat) (ov nv pv lv : Value) (p : Prg) (ns : List ByteArray) : Prop where
  ro : w.ownsRow base 35 5 ov p.orders.length (insCells (p.orders.map Ord.i))
  rn : w.ownsRow base 9 1 nv ns.length (strCells ns)
  rp : w.ownsRow base 3 1 pv p.orders.length (intCells (p.orders.map Ord.at_))
  rl : w.ownsRow base 95 2 lv p.labels.length (labCells p.labels)
theorem RfSt.below {w w' : World} {base : Nat} {ov nv pv lv : Value} {p : Prg} {ns : List ByteArray} (h : RfSt w base ov nv pv lv p ns) (hb : Below w.heap.size w w') : RfSt w' base ov nv pv lv p ns :=
  ⟨own_below h.ro hb, own_below h.rn hb, own_below h.rp hb, own_below h.rl hb⟩
theorem RfSt.alloc {w : World} {base : Nat} {ov nv pv lv : Value} {p : Prg} {ns : List ByteArray} (h : RfSt w base ov nv pv lv p ns) (x : Obj) : RfSt (w.alloc x) base ov nv pv lv p ns :=
  ⟨h.ro.alloc x, h.rn.alloc x, h.rp.alloc x, h.rl.alloc x⟩
theorem RfSt.empty (w : World) (base : Nat) (hb : base = w.heap.size) :
    RfSt ((((w.alloc (.cells #[] 35)).alloc (.cells #[] 9)).alloc (.cells #[] 3)).alloc (.cells #[] 95)) base
      (.slice (some ⟨w.heap.size, 0, none⟩) 0 0) (.slice (some ⟨w.heap.size + 1, 0, none⟩) 0 0) (.slice (some ⟨w.heap.size + 1 + 1, 0, none⟩) 0 0) (.slice (some ⟨w.heap.size + 1 + 1 + 1, 0, none⟩) 0 0) ⟨[], []⟩ [] := by
  subst hb
  have h1 : (w.alloc (.cells #[] 35)).ownsRow w.heap.size 35 5 (.slice (some ⟨w.heap.size, 0, none⟩) 0 0) 0 [] := World.ownsRow_made w #[] 0 (Nat.le_refl _) (by simp [maxLen]) rfl
  have h2 : ((w.alloc (.cells #[] 35)).alloc (.cells #[] 9)).ownsRow w.heap.size 9 1 (.slice (some ⟨(w.alloc (.cells #[] 35)).heap.size, 0, none⟩) 0 0) 0 [] := World.ownsRow_made _ #[] 0 (by simp) (by simp [maxLen]) rfl
  have h3 : (((w.alloc (.cells #[] 35)).alloc (.cells #[] 9)).alloc (.cells #[] 3)).ownsRow w.heap.size 3 1 (.slice (some ⟨((w.alloc (.cells #[] 35)).alloc (.cells #[] 9)).heap.size, 0, none⟩) 0 0) 0 [] := World.ownsRow_made _ #[] 0 (by simp; omega) (by simp [maxLen]) rfl
  have h4 : ((((w.alloc (.cells #[] 35)).alloc (.cells #[] 9)).alloc (.cells #[] 3)).alloc (.cells #[] 95)).ownsRow w.heap.size 95 2 (.slice (some ⟨(((w.alloc (.cells #[] 35)).alloc (.cells #[] 9)).alloc (.cells #[] 3)).heap.size, 0, none⟩) 0 0) 0 [] := World.ownsRow_made _ #[] 0 (by simp; omega) (by simp [maxLen]) rfl
  simp only [World.size_alloc] at h2 h3 h4
  exact ⟨((h1.alloc _).alloc _).alloc _, (h2.alloc _).alloc _, h3.alloc _, h4⟩
/-- The names that go with the orders. -/
def NmOk (p : Prg) (ns : List ByteArray) : Prop := ns.length = p.orders.length ∧ ∀ (j : Nat) (o : Ord), p.orders[j]? = some o → goesP o.i.op = true → ns[j]? = some o.name
theorem NmOk.init : NmOk ⟨[], []⟩ [] := ⟨rfl, fun j o h => by simp at h⟩
theorem NmOk.add {p : Prg} {ns : List ByteArray} (h : NmOk p ns) (o : Ord) (t : ByteArray) (ht : goesP o.i.op = true → o.name = t) (lb : List (ByteArray × Nat)) : NmOk ⟨p.orders ++ [o], lb⟩ (ns ++ [t]) := by
  refine ⟨by simp [h.1], fun j o2 hj hg => ?_⟩
  by_cases hlt : j < p.orders.length
  · rw [List.getElem?_append_left hlt] at hj
    rw [List.getElem?_append_left (by rw [h.1]; exact hlt)]
    exact h.2 j o2 hj hg
  · rw [List.getElem?_append_right (by omega)] at hj
    rw [List.getElem?_append_right (by rw [h.1]; omega), h.1]
    have hz : j - p.orders.length = 0 := by
      have h2 := (List.getElem?_eq_some_iff.1 hj).1
      simp at h2; omega
    rw [hz] at hj ⊢
    simp at hj
    subst hj
    simp [ht hg]
theorem PrgOk.add_mark {p : Prg} (h : PrgOk p) (s : ByteArray) (hf : p.find s = none) : PrgOk ⟨p.orders, p.labels ++ [(s, p.orders.length)]⟩ := by
  refine ⟨h.len, fun t q hq => ?_, h.ord⟩
  have e := find_snoc p.orders p.labels s t p.orders.length hf
  rw [e] at hq
  split at hq
  · injection hq with hq; exact Nat.le_of_eq hq.symm
  · exact h.lab t q hq
theorem own_frozen {w : World} {base size n c g : Nat} {e : TypeId} {xs : List Value} (h : w.ownsRow base e size (.slice (some ⟨g, 0, none⟩) n c) n xs) (j : Nat) : w.frozen? ⟨g, j, none⟩ = false := by
  rcases h.2 with ⟨hv, _⟩ | ⟨g', cap, cur, hv, hb, hg, hnc, hcm, hcs, hx⟩
  · cases hv
  · cases hv
    exact Bk.frozen (show Bk w g e cur from hg) j
theorem getLast_at {l : List Tok} {t : Tok} (h : l[l.length - 1]? = some t) : finT l = t.text := by
  unfold finT
  rw [List.getLast?_eq_getElem?, h]; rfl

set_option maxRecDepth 100000 in
set_option maxHeartbeats 16000000 in
theorem rassemble_any (s : ByteArray) (hs6 : s.size ≤ 600) (w : World) (hU : Lib.Utf8Tabs 1 2 w) : Calls Tryd.prog 20 #[.string s] w (AsmPost s w) := by
  obtain ⟨i0, hi0, hz0, hz1, hz2⟩ := info_parts a_info_instr
  obtain ⟨i1, hi1, hx0, hx1, hx2⟩ := info_parts r_info_str
  obtain ⟨i2, hi2, hy0, hy1, hy2⟩ := info_parts r_info_int
  obtain ⟨i3, hi3, hv0, hv1, hv2⟩ := info_parts r_info_lab
  obtain ⟨L, lp, le, hlex⟩ : ∃ L lp le, lexP s = (L, lp, le) := ⟨_, _, _, rfl⟩
  have HLx := Lib.hid hlex
  have hfm := lexP_forms s (by omega)
  rw [hlex] at hfm
  simp only at hfm
  have hU' := rlex_to hlex hs6 w hU
  have HLa := Lib.hid hU'
  clear hU' hU
  go_enter Tryd.func20, Tryd.ntmps20
  by_cases he : le ≠ 0
  · have HE : Hid (asmP s = ([], lp, le)) := by show _ = _; unfold asmP; rw [hlex]; simp only; rw [if_pos he]
    have hne : (le != 0) = true := by simpa using he
    clear hlex hfm
    go_wp2_with (go_at_call 37; refine HLa.out.mono ?_; rintro e w1 ⟨v, rfl, hrow, hb⟩; have HB := Lib.hid hb; clear hrow hb)
    go_ret3
    exact AsmPost.bad HE.out HB.out
  have he0 : le = 0 := by simpa using he
  subst he0
  clear he
  obtain ⟨LL, hLL⟩ : ∃ LL, linesP L = LL := ⟨_, rfl⟩
  have HAsm : Hid (asmP s = (if (readGo LL ⟨[], []⟩).2.2 ≠ 0 then ([], (readGo LL ⟨[], []⟩).2.1, (readGo LL ⟨[], []⟩).2.2) else codeGo (readGo LL ⟨[], []⟩).1 (readGo LL ⟨[], []⟩).1.orders 0 [])) := by
    show _ = _
    unfold asmP
    rw [hlex, ← hLL]
    simp only [ne_eq, not_true_eq_false, if_false]
  have HLo : Hid (∀ ln ∈ LL, LineOk ln) := by
    intro ln hln t ht
    rw [← hLL] at hln
    exact ⟨lines_forms hfm.1 ln hln t ht, lines_end L [] (fun t ht => nomatch ht) ln hln t ht⟩
  have HLn : Hid (∀ ln ∈ LL, ln.length ≤ 600) := by
    intro ln hln
    rw [← hLL] at hln
    have h1 := linesGo_len2 L [] ln hln
    have h2 := hfm.2
    simp only [List.length_nil] at h1
    omega
  have hll6 : L.length ≤ 600 := by have := hfm.2; omega
  obtain ⟨N, hN⟩ : ∃ N, LL.length = N := ⟨_, rfl⟩
  have hN601 : N ≤ 601 := by rw [← hN, ← hLL]; have := linesGo_le L []; show (linesGo L []).length ≤ _; omega
  have HN := Lib.hid hN
  have HLL := Lib.hid hLL
  clear hlex hfm hN hLL
  go_upto_region 9 with (first
    | (go_at_call 37
       refine HLa.out.mono ?_
       rintro e w1 ⟨v, rfl, hrow, hb⟩
       obtain ⟨A1, c1, rfl, _, hr1⟩ := Rd.of_own_cap hrow
       have HB1 := Lib.hid hb
       have HR1 := Lib.hid hr1
       clear hrow hb hr1)
    | (go_at_call 38
       refine (rlines_any L _ _ _ _ HR1.out (by omega)).mono ?_
       rintro e w2 ⟨Ar, cr, xr, rfl, hlr, hRr, hLr, hb2⟩
       rw [HLL.out, HN.out] at hlr
       rw [hlr] at hRr ⊢
       have HRr := Lib.hid hRr
       have HLr := Lib.hid hLr
       have HXr := Lib.hid hlr
       have HB2 := Lib.hid (HB1.out.trans (hb2.mono HB1.out.size))
       clear hb2 hRr hLr hlr))
  have HS0 := Lib.hid (RfSt.empty w2 w2.heap.size rfl)
  have HBn : Hid (Below w2.heap.size w2 ((((w2.alloc (.cells #[] 35)).alloc (.cells #[] 9)).alloc (.cells #[] 3)).alloc (.cells #[] 95))) := ((((Below.refl _ _).alloc (Nat.le_refl _) _).alloc (by simp) _).alloc (by simp; omega) _).alloc (by simp; omega) _
  have HW2 : Hid (w.heap.size ≤ w2.heap.size) := HB2.out.size
  go_wp2
  go_loopw [9, 10, 11, 12, 13] (fun ov nv pv lv i wr => ∃ (k : Nat) (p : Prg) (ns : List ByteArray), (k ≤ N ∧ i = .int .i64 k) ∧ Hid (RfSt wr w2.heap.size ov nv pv lv p ns) ∧ Hid (readGo (LL.drop k) p = readGo LL ⟨[], []⟩) ∧ Hid (PrgOk p) ∧ Hid (p.labels.length ≤ k) ∧ Hid (NmOk p ns) ∧ Hid (Below w2.heap.size w2 wr)) (fun _ _ _ _ i _ => N - (intOf i).toNat)
  case atStart => exact ⟨0, ⟨[], []⟩, [], ⟨by omega, rfl⟩, HS0.out, rfl, PrgOk.init, Nat.zero_le _, NmOk.init, HBn.out⟩
  case round =>
    obtain ⟨k, p, ns, ⟨hk, rfl⟩, HS, HRg, HP, HLk, HNs, HB⟩ := hrel
    obtain ⟨ov', oc_, rfl, _, hro⟩ := Rd.of_own_cap HS.out.ro
    obtain ⟨lv', lc_, rfl, _, hrl⟩ := Rd.of_own_cap HS.out.rl
    have HRl := Lib.hid hrl
    have HRo := Lib.hid hro
    clear hro hrl
    have hp256 := HP.out.len
    have hl601 : p.labels.length ≤ 601 := by have := HLk.out; omega
    have HBW := Lib.hid (HB2.out.trans (HB.out.mono HB2.out.size))
    by_cases hlt : k < N
    · have hlti : (k : Int) < (N : Int) := by omega
      have hkl : k < LL.length := by rw [HN.out]; exact hlt
      obtain ⟨xj, hxj⟩ : ∃ x, xr[k]? = some x := ⟨_, List.getElem?_eq_getElem (by rw [HXr.out]; exact hlt)⟩
      obtain ⟨ln, hln, hor⟩ := HLr.out k xj hxj
      rw [HLL.out] at hln
      obtain ⟨_, A2, n2, c2, rfl⟩ := xj
      obtain ⟨_, _, e2, hnc2, rr⟩ := Rd.of_own_cap hor
      cases e2
      obtain ⟨br, or_, rfl, hbR, hcr⟩ := (HRr.out.below HB.out).at_ (by omega)
      have k1 := hcr k _ (by rw [List.getElem?_map, hxj]; rfl)
      simp only at k1
      have HRt : Hid (RdT w2 w2.heap.size A2 ln.length ln) := rr
      have hl6 := HLn.out ln (List.mem_of_getElem? hln)
      have HLok := Lib.hid (HLo.out ln (List.mem_of_getElem? hln))
      have hdr : LL.drop k = ln :: LL.drop (k + 1) := by
        rw [List.drop_eq_getElem_cons hkl]; rw [List.getElem?_eq_getElem hkl] at hln; injection hln with hln; rw [hln]
      have hrg := HRg.out
      rw [hdr, readGo] at hrg
      clear hdr hln hor hxj hcr rr hkl
      obtain ⟨m, hm⟩ : ∃ m, ln.length = m := ⟨_, rfl⟩
      rw [hm] at HRt k1 hl6 hnc2
      have HM := Lib.hid hm
      clear hm
      by_cases hm0 : m = 0
      · subst hm0
        have hnil : ln = [] := List.eq_nil_of_length_eq_zero HM.out
        rw [if_pos hnil] at hrg
        have HRg2 := Lib.hid hrg
        clear hrg hnil
        go_wp2
        go_roundw
        case rel =>
          refine ⟨k + 1, p, ns, ⟨by omega, by go_num⟩, ?_, HRg2.out, HP.out, Nat.le_succ_of_le HLk.out, HNs.out, HB.out⟩
          exact HS.out
        case measure => simp [intOf]; omega
      obtain ⟨m1, rfl⟩ : ∃ m1, m = m1 + 1 := ⟨m - 1, by omega⟩
      have hm0b : (((m1 + 1 : Nat) : Int) == 0) = false := beq_eq_false_iff_ne.2 (by omega)
      have hm0c : ((m1 : Int) + 1 == 0) = false := beq_eq_false_iff_ne.2 (by omega)
      have hnn : ln ≠ [] := fun e => hm0 (by rw [← HM.out, e]; rfl)
      rw [if_neg hnn] at hrg
      obtain ⟨t0, lt, hln0⟩ := List.exists_cons_of_ne_nil hnn
      obtain ⟨b2, o2, tq, rfl, hb2, ht0, d0, d1, d2, d3, d4⟩ := HRt.out.tokAt (k := 0) (by omega)
      obtain ⟨_, _, tz, e9, _, hz9, _, q1, _, _, _⟩ := HRt.out.tokAt (k := m1) (by omega)
      cases e9
      obtain rfl : tq = t0 := by rw [hln0] at ht0; simpa using ht0.symm
      simp only [Nat.zero_mul, Nat.add_zero] at d0 d1 d2 d3 d4
      have D1 := Lib.hid d1
      have D3 := Lib.hid d3
      have Q1 := Lib.hid q1
      have HZ9 := Lib.hid hz9
      clear d0 d1 d2 d3 d4 q1 hz9
      have HHead : Hid ((ln.head?.map Tok.at_).getD 0 = tq.at_) := by show _ = _; rw [hln0]; rfl
      have hsh := fun W hr => rshape_any ln (some ⟨b2, o2, none⟩) (m1 + 1) c2 W hr HLok.out (by omega)
      have hka := rkind_any (shapeP ln)
      have hseen := seen_of HLok.out
      obtain ⟨CS, hCS⟩ : ∃ CS, shapeP ln = CS := ⟨_, rfl⟩
      obtain ⟨KD, hKD⟩ : ∃ KD, kindP (shapeP ln) = KD := ⟨_, rfl⟩
      rw [hKD, hCS] at hka
      rw [hCS] at hsh
      have HSh := Lib.hid hsh
      have HFa := Lib.hid hka
      have hcb := bytes_eq CS ⟨#[119, 32, 58, 32]⟩
      clear hsh hka hnn ht0 hm0
      cases hseen with
      | mark x y h1 h2 h3 =>
        rw [h3] at hrg
        simp only at hrg
        rw [hCS] at h2
        obtain rfl : tq = x := by rw [h1] at hln0; injection hln0 with e _; exact e.symm
        rw [decide_eq_true (show CS = ⟨#[119, 32, 58, 32]⟩ from h2)] at hcb
        have hcb2 : (CS.toList == [119, 32, 58, 32]) = true := by rw [← hcb]; congr 1; rw [ByteArray.toList_eq]
        have hfi := findGo_is p tq.text
        clear h1 h2 h3 hln0 hCS hKD
        go_upto_region 15 with (
          go_at_call 39
          refine (HSh.out wr ((HRt.out.below HB.out).more HB.out.size)).mono ?_
          rintro e w3 ⟨rfl, hb3⟩
          have HB3 := Lib.hid (HBW.out.trans (hb3.mono HBW.out.size))
          have HB3w := Lib.hid (HB.out.trans (hb3.mono HB.out.size))
          have HS3 := Lib.hid (HS.out.below hb3)
          have HL3 := Lib.hid ((HRl.out.below hb3).more hb3.size)
          clear hb3 k1)
        go_upto_region 16 with (
          go_at_call 40
          refine (HFa.out w3).mono ?_
          rintro e w4 ⟨rfl, hb4⟩
          have HB4 := Lib.hid (HB3.out.trans (hb4.mono HB3.out.size))
          have HB4w := Lib.hid (HB3w.out.trans (hb4.mono HB3w.out.size))
          have HS4 := Lib.hid (HS3.out.below hb4)
          have HT4 := Lib.hid ((HRt.out.below HB4w.out).more HB4w.out.size)
          have HL4 := Lib.hid ((HL3.out.below hb4).more hb4.size)
          have f1 : w4.cell? ⟨b2, o2 + 1, none⟩ = some (.string tq.text) := (HB4w.out.cell (p := ⟨b2, o2 + 1, none⟩) hb2).trans D1.out
          have f3 : w4.cell? ⟨b2, o2 + 3, none⟩ = some (.int .i64 tq.at_) := (HB4w.out.cell (p := ⟨b2, o2 + 3, none⟩) hb2).trans D3.out
          clear hb4)
        cases hf : p.find tq.text with
        | some q =>
          rw [hf] at hfi
          simp only at hfi
          have hadd : (addP p (.mark tq.text tq.at_)).2 = 5 := by unfold addP; simp only; rw [hf]; rfl
          rw [if_pos (by rw [hadd]; decide), hadd] at hrg
          have HE : Hid (asmP s = ([], tq.at_, 5)) := by
            show _ = _
            rw [HAsm.out, ← hrg]
            simp [Lin.at_]
          have hq0 : (q : Int) ≥ 0 := by omega
          clear hrg hadd hf
          go_upto_region 18 with (
            go_at_call 41
            refine (rfind_any p.labels tq.text lv' p.labels.length lc_ w4 HL4.out).mono ?_
            rintro e w5 ⟨rfl, he5⟩
            obtain rfl : w4 = w5 := he5.symm
            rw [hfi])
          go_quiet (fail)
          go_wp2
          go_ret3
          exact AsmPost.bad HE.out (below_drewN HB4.out _)
        | none =>
          rw [hf] at hfi
          simp only at hfi
          have hadd : addP p (.mark tq.text tq.at_) = (⟨p.orders, p.labels ++ [(tq.text, p.orders.length)]⟩, 0) := by unfold addP; simp only; rw [hf]; rfl
          have HPa := HP.out.add_mark tq.text hf
          rw [hadd] at hrg
          simp only [ne_eq, not_true_eq_false, if_false] at hrg
          have HRg2 := Lib.hid hrg
          clear hrg hadd hf
          have HSa := Lib.hid (HS4.out.alloc (.cells #[.string tq.text, .int .i64 (p.orders.length : Int)] 95))
          have HBa := Lib.hid (HB4w.out.alloc HB4w.out.size (.cells #[.string tq.text, .int .i64 (p.orders.length : Int)] 95))
          have hza := HBa.out.size
          have Ra : Hid (Rd (w4.alloc (.cells #[.string tq.text, .int .i64 (p.orders.length : Int)] 95)) (w4.heap.size + 1) 2 (some ⟨w4.heap.size, 0, none⟩) 1 (labCells [(tq.text, p.orders.length)])) := Rd.new w4 _ _ (size := 2) (m := 1) rfl (by simp [maxLen])
          go_wp2_with (first
            | (go_at_call 41
               refine (rfind_any p.labels tq.text lv' p.labels.length lc_ w4 HL4.out).mono ?_
               rintro e w5 ⟨rfl, he5⟩
               obtain rfl : w4 = w5 := he5.symm
               rw [hfi])
            | (at_builtin
               go_must (
                 refine wpList_app _ rfl (.tmp 65) (.tmp 73) 89 rfl w2.heap.size 95 i3 _ 2 24 Tryd.underlying89 hi3 hv0 hv1 hv2 rfl (by omega) _ _ _ rfl HSa.out.rl _ _ 1 _ _ rfl Ra.out (labCells_one _) ?_ ?_ ?_ ?_
                 · simp only [maxLen]; omega
                 · omega
                 · exact hza
                 intro v6 w6 hown6 hg6 _
                 have HO6 := Lib.hid hown6
                 have HKo := Lib.hid (HSa.out.ro.kept hg6 (r_own_ne HSa.out.ro HSa.out.rl (by decide)))
                 have HKn := Lib.hid (HSa.out.rn.kept hg6 (r_own_ne HSa.out.rn HSa.out.rl (by decide)))
                 have HKp := Lib.hid (HSa.out.rp.kept hg6 (r_own_ne HSa.out.rp HSa.out.rl (by decide)))
                 have HB6 := Lib.hid (below_own HBa.out HSa.out.rl hg6 (Nat.le_refl _) hza)
                 clear hown6 hg6)))
          go_roundw
          case rel =>
            refine ⟨k + 1, ⟨p.orders, p.labels ++ [(tq.text, p.orders.length)]⟩, ns, ⟨by omega, by go_num⟩, ⟨?_, HKn.out, HKp.out, ?_⟩, HRg2.out, HPa, ?_, HNs.out, HB6.out⟩
            · exact HKo.out
            · have h := HO6.out
              show World.ownsRow _ _ _ _ _ _ _
              rw [List.length_append, show labCells (p.labels ++ [(tq.text, p.orders.length)]) = labCells p.labels ++ labCells [(tq.text, p.orders.length)] by simp [labCells]]
              exact h
            · show (p.labels ++ [_]).length ≤ k + 1
              rw [List.length_append]; have := HLk.out; simp; omega
          case measure => simp [intOf]; omega
      | none h1 h2 h3 =>
        rw [h3] at hrg
        simp only at hrg
        rw [hCS] at h1
        rw [hKD] at h2
        rw [decide_eq_false (show ¬ CS = ⟨#[119, 32, 58, 32]⟩ from h1)] at hcb
        have hcb2 : (CS.toList == [119, 32, 58, 32]) = false := by rw [← hcb]; congr 1; rw [ByteArray.toList_eq]
        subst h2
        have HE : Hid (asmP s = ([], tq.at_, 23)) := by
          show _ = _
          rw [HAsm.out, ← hrg]
          simp only [ne_eq]
          rw [if_pos (by decide), HHead.out]
        clear h1 h3 hln0 hCS hKD hrg
        go_upto_region 15 with (
          go_at_call 39
          refine (HSh.out wr ((HRt.out.below HB.out).more HB.out.size)).mono ?_
          rintro e w3 ⟨rfl, hb3⟩
          have HB3 := Lib.hid (HBW.out.trans (hb3.mono HBW.out.size))
          have HB3w := Lib.hid (HB.out.trans (hb3.mono HB.out.size))
          have HS3 := Lib.hid (HS.out.below hb3)
          have HL3 := Lib.hid ((HRl.out.below hb3).more hb3.size)
          clear hb3 k1)
        go_upto_region 16 with (
          go_at_call 40
          refine (HFa.out w3).mono ?_
          rintro e w4 ⟨rfl, hb4⟩
          have HB4 := Lib.hid (HB3.out.trans (hb4.mono HB3.out.size))
          have HB4w := Lib.hid (HB3w.out.trans (hb4.mono HB3w.out.size))
          have HS4 := Lib.hid (HS3.out.below hb4)
          have HT4 := Lib.hid ((HRt.out.below HB4w.out).more HB4w.out.size)
          have HL4 := Lib.hid ((HL3.out.below hb4).more hb4.size)
          have f1 : w4.cell? ⟨b2, o2 + 1, none⟩ = some (.string tq.text) := (HB4w.out.cell (p := ⟨b2, o2 + 1, none⟩) hb2).trans D1.out
          have f3 : w4.cell? ⟨b2, o2 + 3, none⟩ = some (.int .i64 tq.at_) := (HB4w.out.cell (p := ⟨b2, o2 + 3, none⟩) hb2).trans D3.out
          clear hb4)
        go_upto_region 21 with fail
        go_quiet (fail)
        go_wp2
        go_ret3
        exact AsmPost.bad HE.out (below_drewN HB4.out _)
      | order op o hop h1 h2 h3 h4 h5 h6 h7 h8 =>
        rw [h3] at hrg
        simp only at hrg
        rw [hCS] at h1
        rw [hKD] at h2
        rw [decide_eq_false (show ¬ CS = ⟨#[119, 32, 58, 32]⟩ from h1)] at hcb
        have hcb2 : (CS.toList == [119, 32, 58, 32]) = false := by rw [← hcb]; congr 1; rw [ByteArray.toList_eq]
        subst h2
        obtain ⟨⟨oo, oa, ob, oc, om⟩, on, oat⟩ := o
        simp only at h4 h5 h6 h8
        rw [HHead.out] at h6
        subst h6
        have HPar := Lib.hid h3
        clear h1 h3 hln0 hCS hKD
        go_upto_region 15 with (
          go_at_call 39
          refine (HSh.out wr ((HRt.out.below HB.out).more HB.out.size)).mono ?_
          rintro e w3 ⟨rfl, hb3⟩
          have HB3 := Lib.hid (HBW.out.trans (hb3.mono HBW.out.size))
          have HB3w := Lib.hid (HB.out.trans (hb3.mono HB.out.size))
          have HS3 := Lib.hid (HS.out.below hb3)
          have HL3 := Lib.hid ((HRl.out.below hb3).more hb3.size)
          clear hb3 k1)
        go_upto_region 16 with (
          go_at_call 40
          refine (HFa.out w3).mono ?_
          rintro e w4 ⟨rfl, hb4⟩
          have HB4 := Lib.hid (HB3.out.trans (hb4.mono HB3.out.size))
          have HB4w := Lib.hid (HB3w.out.trans (hb4.mono HB3w.out.size))
          have HS4 := Lib.hid (HS3.out.below hb4)
          have HT4 := Lib.hid ((HRt.out.below HB4w.out).more HB4w.out.size)
          have HL4 := Lib.hid ((HL3.out.below hb4).more hb4.size)
          have f1 : w4.cell? ⟨b2, o2 + 1, none⟩ = some (.string tq.text) := (HB4w.out.cell (p := ⟨b2, o2 + 1, none⟩) hb2).trans D1.out
          have f3 : w4.cell? ⟨b2, o2 + 3, none⟩ = some (.int .i64 tq.at_) := (HB4w.out.cell (p := ⟨b2, o2 + 3, none⟩) hb2).trans D3.out
          clear hb4)
        have hop0 : ¬ (op : Int) < 0 := by omega
        by_cases hfull : p.orders.length = 256
        · have hfb : ((p.orders.length : Int) == 256) = true := by rw [beq_iff_eq]; omega
          have hfn : (p.orders.length : Int) = 256 := by omega
          have hadd : (addP p (.order ⟨⟨oo, oa, ob, oc, om⟩, on, tq.at_⟩)).2 = 3 := by unfold addP; simp only; rw [if_pos (by omega)]
          rw [if_pos (by rw [hadd]; decide), hadd] at hrg
          have HE : Hid (asmP s = ([], tq.at_, 3)) := by
            show _ = _
            rw [HAsm.out, ← hrg]
            simp [Lin.at_]
          clear hrg hadd
          go_upto_region 23 with fail
          go_quiet (fail)
          go_wp2
          go_ret3
          exact AsmPost.bad HE.out (below_drewN HB4.out _)
        · have hadd : addP p (.order ⟨⟨oo, oa, ob, oc, om⟩, on, tq.at_⟩) = (⟨p.orders ++ [⟨⟨oo, oa, ob, oc, om⟩, on, tq.at_⟩], p.labels⟩, 0) := by unfold addP; simp only; rw [if_neg (by omega)]
          rw [hadd] at hrg
          simp only [ne_eq, not_true_eq_false, if_false] at hrg
          have HRg2 := Lib.hid hrg
          have hPa := HP.out.add HPar.out (fun t ht => (HLok.out t ht).1)
          rw [hadd] at hPa
          have HPa := Lib.hid hPa
          have HNa := Lib.hid (NmOk.add HNs.out ⟨⟨oo, oa, ob, oc, om⟩, on, tq.at_⟩ (finT ln) h5 p.labels)
          have hfb : ((p.orders.length : Int) == 256) = false := beq_eq_false_iff_ne.2 (by omega)
          have hfn : ¬ (p.orders.length : Int) = 256 := by omega
          have hli := rline_any (op : Int) ln (some ⟨b2, o2, none⟩) (m1 + 1) c2 w4 HT4.out (by omega) h7.1 ⟨fun e => h7.2.1 (by omega), fun e => h7.2.2 (by omega)⟩
          rw [← h4] at hli
          simp only [Ins.cells] at hli
          have HLi := Lib.hid hli
          clear hrg hadd hPa hli h4 h5 h7 h8 hfull
          have HFt : Hid (finT ln = tz.text) := getLast_at (by rw [HM.out]; exact HZ9.out)
          obtain ⟨tzt, htz⟩ : ∃ x, tz.text = x := ⟨_, rfl⟩
          rw [htz] at Q1 HFt
          clear htz HZ9
          go_upto_region 25 with (first
            | (go_at_call 42
               refine HLi.out.mono ?_
               rintro e w5 ⟨rfl, hb5⟩
               have HB5 := Lib.hid (HB4w.out.trans (hb5.mono HB4w.out.size))
               have HS5 := Lib.hid (HS4.out.below hb5)
               have HSa := Lib.hid (HS5.out.alloc (.cells #[.int .i64 oo, .int .i64 oa, .int .i64 ob, .int .i64 oc, .int .u64 om] 35))
               have HBa := Lib.hid (HB5.out.alloc HB5.out.size (.cells #[.int .i64 oo, .int .i64 oa, .int .i64 ob, .int .i64 oc, .int .u64 om] 35))
               have hza := HBa.out.size
               have Ra : Hid (Rd (w5.alloc (.cells #[.int .i64 oo, .int .i64 oa, .int .i64 ob, .int .i64 oc, .int .u64 om] 35)) (w5.heap.size + 1) 5 (some ⟨w5.heap.size, 0, none⟩) 1 (insCells [⟨oo, oa, ob, oc, om⟩])) := Rd.new w5 _ _ (size := 5) (m := 1) rfl (by simp [maxLen])
               clear hb5 f1 f3)
            | (at_builtin
               go_must (
                 refine wpList_app _ rfl (.tmp 88) (.tmp 92) 22 rfl w2.heap.size 35 i0 _ 5 40 Tryd.underlying22 hi0 hz0 hz1 hz2 rfl (by omega) _ _ _ rfl HSa.out.ro _ _ 1 _ _ rfl Ra.out (insCells_one _) ?_ ?_ ?_ ?_
                 · simp only [maxLen]; omega
                 · omega
                 · exact hza
                 intro v6 w6 hown6 hg6 _
                 have HO6 := Lib.hid hown6
                 have HKn := Lib.hid (HSa.out.rn.kept hg6 (r_own_ne HSa.out.rn HSa.out.ro (by decide)))
                 have HKp := Lib.hid (HSa.out.rp.kept hg6 (r_own_ne HSa.out.rp HSa.out.ro (by decide)))
                 have HKl := Lib.hid (HSa.out.rl.kept hg6 (r_own_ne HSa.out.rl HSa.out.ro (by decide)))
                 have HB6 := Lib.hid (below_own HBa.out HSa.out.ro hg6 (Nat.le_refl _) hza)
                 have q1d : w6.cell? ⟨b2, o2 + m1 * 5 + 1, none⟩ = some (.string tzt) := (HB6.out.cell (p := ⟨b2, o2 + m1 * 5 + 1, none⟩) hb2).trans Q1.out
                 have f3d : w6.cell? ⟨b2, o2 + 3, none⟩ = some (.int .i64 tq.at_) := (HB6.out.cell (p := ⟨b2, o2 + 3, none⟩) hb2).trans D3.out
                 clear hown6 hg6)))
          have HNb := Lib.hid (HKn.out.alloc (.cells #[.string tzt] 9))
          have HOb := Lib.hid (HO6.out.alloc (.cells #[.string tzt] 9))
          have HPb := Lib.hid (HKp.out.alloc (.cells #[.string tzt] 9))
          have HLb := Lib.hid (HKl.out.alloc (.cells #[.string tzt] 9))
          have HBb := Lib.hid (HB6.out.alloc HB6.out.size (.cells #[.string tzt] 9))
          have hzb := HBb.out.size
          have hnl : ns.length ≤ 256 := by rw [HNs.out.1]; exact hp256
          have Rb : Hid (Rd (w6.alloc (.cells #[.string tzt] 9)) (w6.heap.size + 1) 1 (some ⟨w6.heap.size, 0, none⟩) 1 (strCells [tzt])) := Rd.new w6 _ _ (size := 1) (m := 1) rfl (by simp [maxLen])
          go_upto_region 26 with (
            at_builtin
            go_must (
              refine wpList_app _ rfl (.tmp 94) (.tmp 102) 37 rfl w2.heap.size 9 i1 _ 1 16 Tryd.underlying37 hi1 hx0 hx1 hx2 rfl (by omega) _ _ _ rfl HNb.out _ _ 1 _ _ rfl Rb.out (strCells_one _) ?_ ?_ ?_ ?_
              · simp only [maxLen]; omega
              · omega
              · exact hzb
              intro v7 w7 hown7 hg7 _
              have HN7 := Lib.hid hown7
              have HO7 := Lib.hid (HOb.out.kept hg7 (r_own_ne HOb.out HNb.out (by decide)))
              have HP7 := Lib.hid (HPb.out.kept hg7 (r_own_ne HPb.out HNb.out (by decide)))
              have HL7 := Lib.hid (HLb.out.kept hg7 (r_own_ne HLb.out HNb.out (by decide)))
              have HB7 := Lib.hid (below_own HBb.out HNb.out hg7 (Nat.le_refl _) hzb)
              have f3e : w7.cell? ⟨b2, o2 + 3, none⟩ = some (.int .i64 tq.at_) := (HB7.out.cell (p := ⟨b2, o2 + 3, none⟩) hb2).trans D3.out
              clear hown7 hg7))
          clear q1d f3d
          have HPc := Lib.hid (HP7.out.alloc (.cells #[.int .i64 tq.at_] 3))
          have HOc := Lib.hid (HO7.out.alloc (.cells #[.int .i64 tq.at_] 3))
          have HNc := Lib.hid (HN7.out.alloc (.cells #[.int .i64 tq.at_] 3))
          have HLc := Lib.hid (HL7.out.alloc (.cells #[.int .i64 tq.at_] 3))
          have HBc := Lib.hid (HB7.out.alloc HB7.out.size (.cells #[.int .i64 tq.at_] 3))
          have hzc := HBc.out.size
          have Rc : Hid (Rd (w7.alloc (.cells #[.int .i64 tq.at_] 3)) (w7.heap.size + 1) 1 (some ⟨w7.heap.size, 0, none⟩) 1 (intCells [tq.at_])) := Rd.new w7 _ _ (size := 1) (m := 1) rfl (by simp [maxLen])
          go_wp2_with (
            at_builtin
            go_must (
              refine wpList_app _ rfl (.tmp 104) (.tmp 109) 88 rfl w2.heap.size 3 i2 _ 1 8 Tryd.underlying88 hi2 hy0 hy1 hy2 rfl (by omega) _ _ _ rfl HPc.out _ _ 1 _ _ rfl Rc.out (intCells_one _) ?_ ?_ ?_ ?_
              · simp only [maxLen]; omega
              · omega
              · exact hzc
              intro v8 w8 hown8 hg8 _
              have HP8 := Lib.hid hown8
              have HO8 := Lib.hid (HOc.out.kept hg8 (r_own_ne HOc.out HPc.out (by decide)))
              have HN8 := Lib.hid (HNc.out.kept hg8 (r_own_ne HNc.out HPc.out (by decide)))
              have HL8 := Lib.hid (HLc.out.kept hg8 (r_own_ne HLc.out HPc.out (by decide)))
              have HB8 := Lib.hid (below_own HBc.out HPc.out hg8 (Nat.le_refl _) hzc)
              clear hown8 hg8))
          go_roundw
          case rel =>
            refine ⟨k + 1, ⟨p.orders ++ [(⟨⟨oo, oa, ob, oc, om⟩, on, tq.at_⟩ : Ord)], p.labels⟩, ns ++ [finT ln], ⟨by omega, by go_num⟩, ⟨?_, ?_, ?_, HL8.out⟩, HRg2.out, HPa.out, Nat.le_succ_of_le HLk.out, HNa.out, HB8.out⟩
            · have h := HO8.out
              show World.ownsRow _ _ _ _ _ _ _
              rw [List.length_append, List.map_append, insCells_append]
              exact h
            · have h := HN8.out
              show World.ownsRow _ _ _ _ _ _ _
              rw [HFt.out, List.length_append, show strCells (ns ++ [tzt]) = strCells ns ++ strCells [tzt] by simp [strCells]]
              exact h
            · have h := HP8.out
              show World.ownsRow _ _ _ _ _ _ _
              rw [List.length_append, List.map_append, show ∀ a b : List Int, intCells (a ++ b) = intCells a ++ intCells b from fun a b => by simp [intCells]]
              exact h
          case measure => simp [intOf]; omega
    · obtain rfl : k = N := by omega
      have hrg := HRg.out
      rw [List.drop_of_length_le (by rw [HN.out]; exact Nat.le_refl _), readGo] at hrg
      have HAs : Hid (asmP s = codeGo p p.orders 0 []) := by
        show _ = _
        rw [HAsm.out, ← hrg]
        simp
      obtain ⟨nv', nc_, rfl, _, hrn⟩ := Rd.of_own_cap HS.out.rn
      obtain ⟨pv', pc_, rfl, _, hrp⟩ := Rd.of_own_cap HS.out.rp
      clear hrg HRg HAsm HLo HLn HLr HRr HLx HLa
      obtain ⟨M, hM⟩ : ∃ M, p.orders.length = M := ⟨_, rfl⟩
      have HM := Lib.hid hM
      have hnsl : ns.length = M := by rw [HNs.out.1, hM]
      have hS0 := HS.out.ro
      rw [hM] at hS0 hp256 ⊢
      have HO0 := Lib.hid hS0
      have HNr : Hid (wr.ownsRow w2.heap.size 9 1 (.slice nv' ns.length nc_) ns.length (strCells ns)) := HS.out.rn
      have hP0 := HS.out.rp
      rw [hM] at hP0
      have HPr := Lib.hid hP0
      have HLr2 := Lib.hid HS.out.rl
      rw [hnsl] at HNr ⊢
      have hOrd := HP.out.ord
      have HOrd := Lib.hid hOrd
      clear hM hrn hrp hS0 hP0 HRo HRl hOrd
      have HBs := Lib.hid HB.out.size
      go_wp2
      go_loopw [17] (fun i wr => ∃ (j : Nat) (done : List Ins), (j ≤ M ∧ i = .int .i64 j ∧ done.length = j) ∧ Hid (wr.ownsRow w2.heap.size 35 5 (.slice ov' M oc_) M (insCells (done ++ (p.orders.drop j).map Ord.i))) ∧ Hid (wr.ownsRow w2.heap.size 9 1 (.slice nv' M nc_) M (strCells ns)) ∧ Hid (wr.ownsRow w2.heap.size 3 1 (.slice pv' M pc_) M (intCells (p.orders.map Ord.at_))) ∧ Hid (wr.ownsRow w2.heap.size 95 2 (.slice lv' p.labels.length lc_) p.labels.length (labCells p.labels)) ∧ Hid (codeGo p (p.orders.drop j) j done = codeGo p p.orders 0 []) ∧ Hid (Below w2.heap.size w2 wr)) (fun i _ => M - (intOf i).toNat)
      case atStart => exact ⟨0, [], ⟨by omega, rfl, rfl⟩, HO0.out, HNr.out, HPr.out, HLr2.out, rfl, HB.out⟩
      case round =>
        clear HO0 HNr HPr HLr2
        obtain ⟨j, done, ⟨hj, rfl, hdl⟩, HO, HNr, HPr, HLr, HC, HBt⟩ := hrel
        have HBTW := Lib.hid (HB2.out.trans (HBt.out.mono HB2.out.size))
        by_cases hlt : j < M
        · have hlti : (j : Int) < (M : Int) := by omega
          have hjl : j < p.orders.length := by rw [HM.out]; exact hlt
          obtain ⟨o, hok⟩ : ∃ o, p.orders[j]? = some o := ⟨_, List.getElem?_eq_getElem hjl⟩
          have hdr : p.orders.drop j = o :: p.orders.drop (j + 1) := by
            rw [List.drop_eq_getElem_cons hjl]; rw [List.getElem?_eq_getElem hjl] at hok; injection hok with hok; rw [hok]
          have hoo := HOrd.out o (List.mem_of_getElem? hok)
          have hc := HC.out
          rw [hdr, codeGo] at hc
          have hO := HO.out
          rw [hdr, List.map_cons] at hO
          have HO1 := Lib.hid hO
          obtain ⟨_, _, e9, _, hrd⟩ := Rd.of_own_cap hO
          cases e9
          obtain ⟨gb, go_, rfl, hgB, hcs⟩ := hrd.at_ (by omega)
          have hgo0 : go_ = 0 := by
            rcases hO.2 with ⟨hv, _⟩ | ⟨g', cap, cur, hv, _⟩
            · cases hv
            · cases hv; rfl
          subst hgo0
          have hcell : ∀ q u, (o.i.cells)[q]? = some u → wr.cell? ⟨gb, 0 + (j * 5 + q), none⟩ = some u := by
            intro q u hu
            refine hcs (j * 5 + q) u ?_
            have hq5 : q < 5 := (List.getElem?_eq_some_iff.1 hu).1
            rw [insCells_append, List.getElem?_append_right (by rw [insCells_length, hdl]; omega), insCells_length, hdl, Nat.add_sub_cancel_left]
            show (o.i.cells ++ _)[q]? = _
            rw [List.getElem?_append_left hq5]; exact hu
          have c0 := hcell 0 _ rfl
          have z4 := hcell 4 _ rfl
          simp only [Nat.zero_add, Nat.add_zero] at c0 z4
          obtain ⟨⟨oo, oa, ob, oc, om⟩, on, oat⟩ := o
          simp only at c0 z4 hc
          have hpat : Hid (asmP s = codeGo p p.orders 0 []) := HAs
          clear hcell hcs hrd hO HO HC
          obtain ⟨gs, hgs⟩ : ∃ gs, goesP oo = gs := ⟨_, rfl⟩
          have hgo := fun W => rgoes_is oo W hgs
          cases gs
          · rw [if_pos (hoo.stay hgs)] at hc
            have HC2 := Lib.hid hc
            clear hc hgs hoo
            go_wp2_with (go_at_call 19; refine (hgo _).mono ?_; rintro e w9 ⟨rfl, he9⟩; obtain rfl : wr = w9 := he9.symm)
            go_roundw
            case rel =>
              refine ⟨j + 1, done ++ [(⟨oo, oa, ob, oc, om⟩ : Ins)], ⟨by omega, by go_num, by simp [hdl]⟩, ?_, HNr.out, HPr.out, HLr.out, HC2.out, HBt.out⟩
              have h := HO1.out
              show World.ownsRow _ _ _ _ _ _ _
              rw [List.append_assoc]
              exact h
            case measure => simp [intOf]; omega
          · have hne := hoo.go hgs
            rw [if_neg hne] at hc
            have hnm := HNs.out.2 j _ hok hgs
            simp only at hnm
            obtain ⟨_, _, e8, _, hrn⟩ := Rd.of_own_cap HNr.out
            cases e8
            obtain ⟨nb, no_, rfl, hnB, hns⟩ := hrn.at_ (by omega)
            have n0 : wr.cell? ⟨nb, no_ + j, none⟩ = some (.string on) := hns j _ (by unfold strCells; rw [List.getElem?_map, hnm]; rfl)
            obtain ⟨_, _, e7, _, hrp⟩ := Rd.of_own_cap HPr.out
            cases e7
            obtain ⟨pb, po_, rfl, hpB, hps⟩ := hrp.at_ (by omega)
            have p0 : wr.cell? ⟨pb, po_ + j, none⟩ = some (.int .i64 oat) := hps j _ (by unfold intCells; rw [List.getElem?_map, List.getElem?_map, hok]; rfl)
            obtain ⟨_, _, e6, _, hrl⟩ := Rd.of_own_cap HLr.out
            cases e6
            have HRl2 := Lib.hid hrl
            have hfi := findGo_is p on
            clear hns hps hrn hrp hrl hgs hoo hne hnm hok
            cases hf : p.find on with
            | none =>
              rw [hf] at hc hfi
              simp only at hc hfi
              have HE : Hid (asmP s = ([], oat, 24)) := by show _ = _; rw [hpat.out, ← hc]
              clear hc hf
              go_upto_region 33 with (first
                | (go_at_call 19; refine (hgo _).mono ?_; rintro e w9 ⟨rfl, he9⟩; obtain rfl : wr = w9 := he9.symm)
                | (go_at_call 41
                   refine (rfind_any p.labels on lv' p.labels.length lc_ wr HRl2.out).mono ?_
                   rintro e w5 ⟨rfl, he5⟩
                   obtain rfl : wr = w5 := he5.symm
                   rw [hfi]))
              go_quiet (fail)
              go_wp2
              go_ret3
              exact AsmPost.bad HE.out (below_drewN HBTW.out _)
            | some q =>
              rw [hf] at hc hfi
              simp only at hc hfi
              have hq256 := HP.out.lab on q hf
              rw [HM.out] at hq256
              obtain ⟨fb, hfb⟩ : ∃ fb, forthP oo j q = fb := ⟨_, rfl⟩
              rw [hfb] at hc
              have hfo := fun W => rforth_is oo j q W hfb
              have hq0 : ¬ (q : Int) < 0 := by omega
              clear hf hfb
              cases fb
              · rw [if_neg (by simp)] at hc
                have HE : Hid (asmP s = ([], oat, 24)) := by show _ = _; rw [hpat.out, ← hc]
                clear hc
                go_upto_region 33 with (first
                  | (go_at_call 19; refine (hgo _).mono ?_; rintro e w9 ⟨rfl, he9⟩; obtain rfl : wr = w9 := he9.symm)
                  | (go_at_call 41
                     refine (rfind_any p.labels on lv' p.labels.length lc_ wr HRl2.out).mono ?_
                     rintro e w5 ⟨rfl, he5⟩
                     obtain rfl : wr = w5 := he5.symm
                     rw [hfi])
                  | (go_at_call 30; refine (hfo _).mono ?_; rintro e w9 ⟨rfl, he9⟩; obtain rfl : wr = w9 := he9.symm))
                go_quiet (fail)
                go_wp2
                go_ret3
                exact AsmPost.bad HE.out (below_drewN HBTW.out _)
              · rw [if_pos rfl] at hc
                have HC2 := Lib.hid hc
                clear hc
                have hfz : wr.frozen? ⟨gb, j * 5 + 4, none⟩ = false := own_frozen HO1.out (j * 5 + 4)
                go_wp2_with (first
                  | (go_at_call 19; refine (hgo _).mono ?_; rintro e w9 ⟨rfl, he9⟩; obtain rfl : wr = w9 := he9.symm)
                  | (go_at_call 41
                     refine (rfind_any p.labels on lv' p.labels.length lc_ wr HRl2.out).mono ?_
                     rintro e w5 ⟨rfl, he5⟩
                     obtain rfl : wr = w5 := he5.symm
                     rw [hfi])
                  | (go_at_call 30; refine (hfo _).mono ?_; rintro e w9 ⟨rfl, he9⟩; obtain rfl : wr = w9 := he9.symm))
                go_roundw
                case rel =>
                  refine ⟨j + 1, done ++ [(⟨oo, oa, ob, oc, (q : Int)⟩ : Ins)], ⟨by omega, by go_num, by simp [hdl]⟩, ?_, ?_, ?_, ?_, HC2.out, ?_⟩
                  · have h := own_set HO1.out (j := j * 5 + 4) (.int .u64 (q : Int))
                    rw [← hdl, insCells_imm, hdl] at h
                    show World.ownsRow _ _ _ _ _ _ _
                    rw [List.append_assoc]
                    exact h
                  · exact HNr.out.kept (a_grown_set wr gb (j * 5 + 4) (.int .u64 (q : Int))) (r_own_ne HNr.out HO1.out (by decide))
                  · exact HPr.out.kept (a_grown_set wr gb (j * 5 + 4) (.int .u64 (q : Int))) (r_own_ne HPr.out HO1.out (by decide))
                  · exact HLr.out.kept (a_grown_set wr gb (j * 5 + 4) (.int .u64 (q : Int))) (r_own_ne HLr.out HO1.out (by decide))
                  · exact HBt.out.setCell (p := ⟨gb, j * 5 + 4, none⟩) (HO1.out.lt gb rfl).1 _
                case measure => simp [intOf]; omega
        · obtain rfl : j = M := by omega
          have hc := HC.out
          have hO := HO.out
          rw [List.drop_of_length_le (by rw [HM.out]; exact Nat.le_refl _)] at hc hO
          rw [codeGo] at hc
          rw [List.map_nil, List.append_nil] at hO
          have HE : Hid (asmP s = (done, 0, 0)) := by show _ = _; rw [HAs.out, ← hc]
          have HOf := Lib.hid hO
          clear hc hO
          go_wp2
          go_ret3
          unfold AsmPost
          rw [HE.out]
          refine ⟨_, rfl, ?_, HBTW.out⟩
          rw [hdl]
          exact own_base HOf.out HW2.out
end Go.Proofs.YthdlihiehfkceaaDoor

namespace Go.Proofs.YthdlihiehfkceaaDoor
open Go.RowKit
set_option linter.unusedVariables false

set_option maxRecDepth 100000 in
set_option maxHeartbeats 8000000 in
theorem reads_walk (text : ByteArray) (W : World) (htab : PowTab W) (hU : Lib.Utf8Tabs 1 2 W) (hts : text.size ≤ maxLen) :
    Calls Tryd.prog 9 #[.string text] W fun e w' => e = .returned (.bool true) ∧ Below W.heap.size W w' := by
  have HT := Lib.hid htab
  have HU := Lib.hid hU
  clear htab hU
  go_enter Tryd.func9, Tryd.ntmps9
  go_wp2_with fail
  refine (alive4_any _ HT.out).mono ?_
  rintro e w1 ⟨rfl, hb1⟩
  have HB1 := Lib.hid hb1
  have HU1 := Lib.hid (utf8_below HU.out hb1)
  clear hb1
  by_cases h600 : 600 < text.size
  · have g5 : (600 : Int) < (text.size : Int) := by omega
    clear h600
    go_wp2
    go_ret
    exact ⟨rfl, HB1.out⟩
  have g5 : ¬ (600 : Int) < (text.size : Int) := by omega
  have hs600 : text.size ≤ 600 := by omega
  clear h600
  obtain ⟨cd, oa, er, hA⟩ : ∃ cd oa er, asmP text = (cd, oa, er) := ⟨_, _, _, rfl⟩
  have HA := Lib.hid hA
  have hr := fun w hU => rassemble_any text hs600 w hU
  have HRa : Hid (∀ w, Lib.Utf8Tabs 1 2 w → Calls Tryd.prog 20 #[.string text] w fun e' w' => ∃ A c, e' = .returned (.tuple #[.slice A cd.length c, .int .i64 oa, .int .i64 er]) ∧ RdI w' w'.heap.size A cd.length cd ∧ Below w.heap.size w w') := by
    intro w hU
    refine (hr w hU).mono ?_
    rintro e' w' ⟨v, rfl, hrow, hb⟩
    rw [hA] at hrow ⊢
    simp only at hrow ⊢
    obtain ⟨A, c, rfl, _, hrd⟩ := Rd.of_own_cap hrow
    exact ⟨A, c, rfl, hrd, hb⟩
  clear hA hr
  go_wp2_with (first
    | (go_at_call 14
       with_reducible refine (asm_to HA.out w1 hts).mono ?_
       rintro e u1 ⟨A1, c1, rfl, hc1, hr1, _, hb1⟩
       have HR1 := Lib.hid hr1
       have HB2 := Lib.hid (HB1.out.trans (hb1.mono HB1.out.size))
       have HU2 := Lib.hid (utf8_below HU1.out hb1)
       clear hb1 hr1 hc1)
    | (go_at_call 20
       with_reducible refine (HRa.out u1 HU2.out).mono ?_
       rintro e u2 ⟨A2, c2, rfl, hr2, hb2⟩
       have HR2 := Lib.hid hr2
       have HB3 := Lib.hid (HB2.out.trans (hb2.mono HB2.out.size))
       have HR1' := Lib.hid ((HR1.out.below hb2).more hb2.size)
       clear hb2 hr2)
    | (go_at_call 15
       with_reducible refine (same_is cd A1 A2 cd.length c1 cd.length c2 u2 HR1'.out HR2.out).mono ?_
       rintro e u3 ⟨rfl, hb3⟩
       have HB4 := Lib.hid (HB3.out.trans (hb3.mono HB3.out.size))
       clear hb3))
  go_ret
  exact ⟨by simp, HB4.out⟩
end Go.Proofs.YthdlihiehfkceaaDoor

namespace Go.Proofs.YthdlihiehfkceaaDoor
open Go.ChangeShapes Go.WideShapes Go.RowKit Go.Deep
set_option linter.unusedVariables false

abbrev tabs5 : List (String × DataW Unit) := [("math/bits.deBruijn32tab", Rows.laid_math_bits_deBruijn32tab), ("math/bits.deBruijn64tab", Rows.laid_math_bits_deBruijn64tab), ("internal/strconv.uint64pow10", Rows.laid_internal_strconv_uint64pow10), ("unicode/utf8.acceptRanges", Rows.laid_unicode_utf8_acceptRanges), ("unicode/utf8.first", Rows.laid_unicode_utf8_first)]
theorem first_laid : (Rows.laid_unicode_utf8_first : DataW Unit) = Lib.firstData := by kernel_rfl
theorem accept_laid : (Rows.laid_unicode_utf8_acceptRanges : DataW Unit) = Lib.acceptData := by kernel_rfl
theorem met_laidAll5 (os : Os) (args : Array Value) : laidMetH Tryd.prog tabs5 ((World.laidAll Tryd.prog os tabs5).forCall (fun _ _ => 0) ⟨#[], args, []⟩).memory := by
  rw [MakeChecks.laidMetH_plain _ _ _ (by kernel_rfl)]; exact laidMet_laidAll _ (by kernel_rfl) (by kernel_rfl)
theorem met5 {W : World} (h : laidMetH Tryd.prog tabs5 W) : laidMet Tryd.prog tabs5 W := by
  rw [MakeChecks.laidMetH_plain _ _ _ (by kernel_rfl)] at h; exact h
theorem pow_of_laid5 {W : World} (h : laidMetH Tryd.prog tabs5 W) : PowTab W := by
  obtain ⟨g2, t2, cs2, f2, p2, hg2, ht2, hv2, hd2⟩ := Lib.laidMet.reads (met5 h) (.tail _ (.tail _ (.head _)))
  obtain rfl := Option.some.inj (gPow.symm.trans hg2)
  obtain rfl := Option.some.inj (tPow.symm.trans ht2)
  rw [pow_laid] at hd2
  show _ = _
  rw [hv2, ← Lib.cells_of_tab Tryd.underlying146 Tryd.underlying33 (by kernel_rfl) (by kernel_rfl) hd2]
theorem utf8_of_laid5 {W : World} (h : laidMetH Tryd.prog tabs5 W) : Lib.Utf8Tabs 1 2 W :=
  utf8Tabs_of_readsT (ρ := Tryd.lays197_ren) { Tryd.lays197 with } ⟨by kernel_rfl, by kernel_rfl, by kernel_rfl, by kernel_rfl, by kernel_rfl, by kernel_rfl, by kernel_rfl⟩
    (by rw [← first_laid]; exact Lib.laidMet.reads (met5 h) (.tail _ (.tail _ (.tail _ (.tail _ (.head _))))))
    (by rw [← accept_laid]; exact Lib.laidMet.reads (met5 h) (.tail _ (.tail _ (.tail _ (.head _)))))
end Go.Proofs.YthdlihiehfkceaaDoor
