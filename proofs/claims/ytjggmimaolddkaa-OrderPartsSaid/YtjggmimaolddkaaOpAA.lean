/-
  Texts of one proof, joined (wip/gen/pack.py): LawO2, LawO3.
-/
import Derived.Test.YtjggmimaolddkaaObAL
import Derived.Test.YtjggmimaolddkaaObAO
namespace Go.Proofs.Ytjggmimaolddkaa
open Go.RowKit
set_option linter.unusedVariables false

def fewO (c : Cfg) (ps : List (List Ins)) (n : Nat) (rows : List Rx) : Bool :=
  ps.all (fun q => decide (q.length ≤ 40)) && (rows.all (fun x => decide (x.news.length ≤ 20)) && (decide (c.F ≤ 200) && (decide (ps.length ≤ 8) && (decide (n ≤ 12) && decide (rows.length ≤ 12)))))
theorem fewO_yes {c : Cfg} {ps : List (List Ins)} {n : Nat} {rows : List Rx} (h : fewO c ps n rows = true) : (∀ x ∈ rows, x.news.length ≤ 20) ∧ n ≤ 12 ∧ rows.length ≤ 12 := by
  unfold fewO at h
  simp only [Bool.and_eq_true, List.all_eq_true, decide_eq_true_eq] at h
  exact ⟨h.2.1, h.2.2.2.2.1, h.2.2.2.2.2⟩
theorem fewO_p {c : Cfg} {ps : List (List Ins)} {n : Nat} {rows : List Rx} {q : List Ins} (hq : q ∈ ps) (h : 40 < q.length) : fewO c ps n rows = false := by
  unfold fewO
  have : ps.all (fun q => decide (q.length ≤ 40)) = false := List.all_eq_false.2 ⟨q, hq, by simp; omega⟩
  rw [this]; rfl
theorem fewO_x {c : Cfg} {ps : List (List Ins)} {n : Nat} {rows : List Rx} {x : Rx} (hx : x ∈ rows) (h : 20 < x.news.length) : fewO c ps n rows = false := by
  unfold fewO
  have : rows.all (fun x => decide (x.news.length ≤ 20)) = false := List.all_eq_false.2 ⟨x, hx, by simp; omega⟩
  rw [this, Bool.false_and, Bool.and_false]
theorem fewO_end {c : Cfg} {ps : List (List Ins)} {n : Nat} {rows : List Rx} (h1 : ∀ q ∈ ps, q.length ≤ 40) (h2 : ∀ x ∈ rows, x.news.length ≤ 20) : fewO c ps n rows = (decide (c.F ≤ 200) && (decide (ps.length ≤ 8) && (decide (n ≤ 12) && decide (rows.length ≤ 12)))) := by
  unfold fewO
  rw [show ps.all (fun q => decide (q.length ≤ 40)) = true from List.all_eq_true.2 (fun q hq => decide_eq_true (h1 q hq)), show rows.all (fun x => decide (x.news.length ≤ 20)) = true from List.all_eq_true.2 (fun x hx => decide_eq_true (h2 x hx))]
  rfl
/-- What a replay comes to: a state, or a row and why. -/
theorem replayGo_form (c : Cfg) (ps : List (List Ins)) (recs : List Rc7) : ∀ (l : List Rx) (s : MSt) (n : Nat), (∃ s', replayGo c ps recs l s n = (some s', 0, 0)) ∨ (∃ k x, replayGo c ps recs l s n = (none, k, x) ∧ x ≠ 0 ∧ n ≤ k)
  | [], s, n => .inl ⟨s, rfl⟩
  | x :: l, s, n => by
    rw [replayGo]
    cases hf : findK x.r.key recs 0 with
    | none => exact .inr ⟨n, 4, rfl, by decide, Nat.le_refl _⟩
    | some iq =>
      obtain ⟨i, q⟩ := iq
      show (∃ s', (if x.r.code = 45 then _ else _) = _) ∨ _
      by_cases h45 : x.r.code = 45
      · rw [if_pos h45]
        rcases replayGo_form c ps recs l s (n + 1) with h | ⟨k, y, h1, h2, h3⟩
        · exact .inl h
        · exact .inr ⟨k, y, by simp only [h45, if_true]; exact h1, h2, by omega⟩
      · rw [if_neg h45]
        by_cases hb : badRun c s x (runRow c ps q s x) ≠ 0
        · rw [if_pos hb]
          exact .inr ⟨n, _, by simp only [h45, if_false]; rw [if_pos hb], hb, Nat.le_refl _⟩
        · rw [if_neg hb]
          rcases replayGo_form c ps recs l (afterP s (runRow c ps q s x)) (n + 1) with h | ⟨k, y, h1, h2, h3⟩
          · exact .inl h
          · exact .inr ⟨k, y, by simp only [h45, if_false]; rw [if_neg hb]; exact h1, h2, by omega⟩
/-- The first rows of rows that replay. -/
theorem replayGo_some (c : Cfg) (ps : List (List Ins)) (recs : List Rc7) : ∀ (l : List Rx) (s : MSt) (n j : Nat) (s' : MSt), replayGo c ps recs l s n = (some s', 0, 0) → ∃ s2, replayGo c ps recs (l.take j) s n = (some s2, 0, 0) ∧ (l.length ≤ j → s2 = s')
  | [], s, n, j, s', h => ⟨s', by rw [List.take_nil]; exact h, fun _ => rfl⟩
  | x :: l, s, n, 0, s', h => ⟨s, rfl, fun hl => by simp at hl⟩
  | x :: l, s, n, j + 1, s', h => by
    rw [List.take_succ_cons, replayGo]
    rw [replayGo] at h
    cases hf : findK x.r.key recs 0 with
    | none => rw [hf] at h; simp at h
    | some iq =>
      obtain ⟨i, q⟩ := iq
      rw [hf] at h
      simp only at h ⊢
      by_cases h45 : x.r.code = 45
      · rw [if_pos h45] at h ⊢
        obtain ⟨s2, h1, h2⟩ := replayGo_some c ps recs l s (n + 1) j s' h
        exact ⟨s2, h1, fun hl => h2 (by simpa using hl)⟩
      · rw [if_neg h45] at h ⊢
        by_cases hb : badRun c s x (runRow c ps q s x) ≠ 0
        · rw [if_pos hb] at h; simp at h
        · rw [if_neg hb] at h ⊢
          obtain ⟨s2, h1, h2⟩ := replayGo_some c ps recs l _ (n + 1) j s' h
          exact ⟨s2, h1, fun hl => h2 (by simpa using hl)⟩
/-- The first rows of rows that do not. -/
theorem replayGo_none (c : Cfg) (ps : List (List Ins)) (recs : List Rc7) : ∀ (l : List Rx) (s : MSt) (n j k : Nat) (y : Int), replayGo c ps recs l s n = (none, k, y) → replayGo c ps recs (l.take j) s n = (none, k, y) ∨ (∃ s2, replayGo c ps recs (l.take j) s n = (some s2, 0, 0) ∧ n + j ≤ k)
  | [], s, n, j, k, y, h => by rw [replayGo] at h; simp at h
  | x :: l, s, n, 0, k, y, h => by
    refine .inr ⟨s, rfl, ?_⟩
    rcases replayGo_form c ps recs (x :: l) s n with ⟨s', h1⟩ | ⟨k', y', h1, _, h3⟩
    · rw [h] at h1; simp at h1
    · rw [h] at h1
      simp only [Prod.mk.injEq] at h1
      omega
  | x :: l, s, n, j + 1, k, y, h => by
    rw [List.take_succ_cons, replayGo]
    rw [replayGo] at h
    cases hf : findK x.r.key recs 0 with
    | none => rw [hf] at h; exact .inl h
    | some iq =>
      obtain ⟨i, q⟩ := iq
      rw [hf] at h
      simp only at h ⊢
      by_cases h45 : x.r.code = 45
      · rw [if_pos h45] at h ⊢
        rcases replayGo_none c ps recs l s (n + 1) j k y h with h1 | ⟨s2, h1, h2⟩
        · exact .inl h1
        · exact .inr ⟨s2, h1, by omega⟩
      · rw [if_neg h45] at h ⊢
        by_cases hb : badRun c s x (runRow c ps q s x) ≠ 0
        · rw [if_pos hb] at h ⊢; exact .inl h
        · rw [if_neg hb] at h ⊢
          rcases replayGo_none c ps recs l _ (n + 1) j k y h with h1 | ⟨s2, h1, h2⟩
          · exact .inl h1
          · exact .inr ⟨s2, h1, by omega⟩
/-- What a replay, and the replay of its first rows, come to. -/
theorem replay_parts (c : Cfg) (ps : List (List Ins)) (recs : List Rc7) (l : List Rx) (j : Nat) :
    (∃ s s2, replayP c ps recs l = (some s, 0, 0) ∧ replayP c ps recs (l.take j) = (some s2, 0, 0) ∧ (l.length ≤ j → s2 = s)) ∨
    (∃ k y, y ≠ 0 ∧ replayP c ps recs l = (none, k, y) ∧ (replayP c ps recs (l.take j) = (none, k, y) ∨ ∃ s2, replayP c ps recs (l.take j) = (some s2, 0, 0) ∧ j ≤ k)) := by
  unfold replayP
  cases c.right with
  | false => exact .inr ⟨0, 1, by decide, rfl, .inl rfl⟩
  | true =>
    simp only [if_true]
    rcases replayGo_form c ps recs l emptyS 0 with ⟨s, h⟩ | ⟨k, y, h, hy, _⟩
    · obtain ⟨s2, h1, h2⟩ := replayGo_some c ps recs l emptyS 0 j s h
      exact .inl ⟨s, s2, h, h1, h2⟩
    · rcases replayGo_none c ps recs l emptyS 0 j k y h with h1 | ⟨s2, h1, h2⟩
      · exact .inr ⟨k, y, hy, h, .inl h1⟩
      · exact .inr ⟨k, y, hy, h, .inr ⟨s2, h1, by omega⟩⟩

set_option maxRecDepth 100000 in
set_option maxHeartbeats 8000000 in
theorem ofew_any (c : Cfg) (ps : List (List Ins)) (A0 : Option Addr) (n0 c0 : Nat) (A1 : Option Addr) (n1 c1 : Nat) (rows : List Rx) (A2 : Option Addr) (n2 c2 : Nat) (w : World) (hp : ProgsIn w w.heap.size A0 n0 ps) (h1 : n1 ≤ 9223372036854775807) (hrow : RowsIn w w.heap.size A2 n2 rows) :
    Calls Try.prog 10 #[c.v, .slice A0 n0 c0, .slice A1 n1 c1, .slice A2 n2 c2] w fun e w' => e = .returned (.bool (fewO c ps n1 rows)) ∧ Below w.heap.size w w' := by
  have HP := Lib.hid hp
  have HRow := Lib.hid hrow
  have HL0 := Lib.hid hp.len
  have HL2 := Lib.hid hrow.len
  have hn0 := hp.le
  have hn2 := hrow.rows.le
  unfold maxLen at hn0 hn2
  clear hp hrow
  unfold Cfg.v
  have HC0 : Hid (Bk (w.alloc (.cells #[.int .i64 c.T, .int .i64 c.B, .int .i64 c.W, .int .i64 c.F, .int .u64 c.fi, .int .u64 c.la] 44)) w.heap.size 44 #[.int .i64 c.T, .int .i64 c.B, .int .i64 c.W, .int .i64 c.F, .int .u64 c.fi, .int .u64 c.la]) := Bk.new w _ _
  have HB0 : Hid (Below w.heap.size w (w.alloc (.cells #[.int .i64 c.T, .int .i64 c.B, .int .i64 c.W, .int .i64 c.F, .int .u64 c.fi, .int .u64 c.la] 44))) := (Below.refl _ _).alloc (Nat.le_refl _) _
  go_enter Try.func10, Try.ntmps10
  go_wp2
  go_loopw [15] (fun i wr => ∃ k : Nat, (k ≤ n0 ∧ i = .int .i64 k) ∧ Hid (∀ q ∈ ps.take k, q.length ≤ 40) ∧ Hid (Bk wr w.heap.size 44 #[.int .i64 c.T, .int .i64 c.B, .int .i64 c.W, .int .i64 c.F, .int .u64 c.fi, .int .u64 c.la]) ∧ Hid (Below w.heap.size w wr)) (fun i _ => n0 - (intOf i).toNat)
  case atStart => exact ⟨0, ⟨by omega, rfl⟩, fun q hq => by simp at hq, HC0.out, HB0.out⟩
  case round =>
    obtain ⟨k, ⟨hk, rfl⟩, HF, HC, HB⟩ := hrel
    by_cases hlt : k < n0
    · have hlti : (k : Int) < (n0 : Int) := by omega
      have hkl : k < ps.length := by rw [HL0.out]; exact hlt
      obtain ⟨b, o, A', c', rfl, hb, hc, hr, hl⟩ := (HP.out.below HB.out).at_ k _ (List.getElem?_eq_getElem hkl)
      have HMem := Lib.hid (List.getElem_mem hkl)
      have HGe : Hid (ps[k]? = some (ps[k]'hkl)) := List.getElem?_eq_getElem hkl
      have hq63 := hr.le
      unfold maxLen at hq63
      obtain ⟨Q, hQ⟩ : ∃ Q, ps[k]'hkl = Q := ⟨_, rfl⟩
      rw [hQ] at hc HMem HGe hq63
      clear hr hl hQ
      by_cases h40 : 40 < Q.length
      · have HE := Lib.hid (fewO_p (c := c) (n := n1) (rows := rows) HMem.out h40)
        go_wp2
        go_ret
        exact ⟨ret_bool HE.out.symm, HB.out⟩
      · have HF2 : Hid (∀ q ∈ ps.take (k + 1), q.length ≤ 40) := fun q hq => by
          rw [List.take_add_one, HGe.out] at hq
          rcases List.mem_append.1 hq with h | h
          · exact HF.out q h
          · simp at h; subst h; omega
        go_wp2
        go_roundw
        case rel => exact ⟨k + 1, ⟨by omega, by go_num⟩, HF2.out, HC.out, HB.out⟩
        case measure => simp [intOf]; omega
    · obtain rfl : k = n0 := by omega
      have HF0 : Hid (∀ q ∈ ps, q.length ≤ 40) := fun q hq => HF.out q (by rw [List.take_of_length_le (by rw [HL0.out]; exact Nat.le_refl _)]; exact hq)
      clear HF
      go_wp2
      go_loopw [25] (fun i wq => ∃ z : Nat, (z ≤ n2 ∧ i = .int .i64 z) ∧ Hid (∀ x ∈ rows.take z, x.news.length ≤ 20) ∧ Hid (Bk wq w.heap.size 44 #[.int .i64 c.T, .int .i64 c.B, .int .i64 c.W, .int .i64 c.F, .int .u64 c.fi, .int .u64 c.la]) ∧ Hid (Below w.heap.size w wq)) (fun i _ => n2 - (intOf i).toNat)
      case atStart => exact ⟨0, ⟨by omega, rfl⟩, fun q hq => by simp at hq, HC.out, HB.out⟩
      case round =>
        obtain ⟨z, ⟨hz, rfl⟩, HF, HCq, HBq⟩ := hrel
        by_cases hzl : z < n2
        · have hzli : (z : Int) < (n2 : Int) := by omega
          have hxl : z < rows.length := by rw [HL2.out]; exact hzl
          obtain ⟨b, o, r, rfl, hb, hrw, hc⟩ := (HRow.out.rows.below HBq.out).rwAt hzl
          obtain ⟨x, hx⟩ : ∃ x, rows[z]? = some x := ⟨_, List.getElem?_eq_getElem hxl⟩
          obtain rfl : x.r = r := by
            rw [List.getElem?_map, hx] at hrw
            simpa using hrw
          have hmem := List.mem_of_getElem? hx
          obtain ⟨nA, nc, hnv, hnr, _⟩ := HRow.out.news x hmem
          have HMem := Lib.hid hmem
          have HGe := Lib.hid hx
          have hx63 := hnr.le
          unfold maxLen at hx63
          obtain ⟨⟨rat, rwho, rtag, rco, rva, rnv⟩, news⟩ := x
          simp only at hnv hc hx63
          subst hnv
          have d0 := hc 0 _ rfl
          have d1 := hc 1 _ rfl
          have d2 := hc 2 _ rfl
          have d3 := hc 3 _ rfl
          have d4 := hc 4 _ rfl
          have d5 := hc 5 _ rfl
          simp only [← Nat.add_assoc, Nat.add_zero] at d0 d1 d2 d3 d4 d5
          have HCn := Lib.hid (HCq.out.alloc (.cells #[.int .i64 rat, .int .i64 rwho, .int .i64 rtag, .int .i64 rco, .int .u64 rva, .slice nA news.length nc] 36))
          have HBn := Lib.hid (HBq.out.alloc HBq.out.size (.cells #[.int .i64 rat, .int .i64 rwho, .int .i64 rtag, .int .i64 rco, .int .u64 rva, .slice nA news.length nc] 36))
          clear hc hrw hx hnr hmem
          by_cases h20 : 20 < news.length
          · have HE := Lib.hid (fewO_x (c := c) (ps := ps) (n := n1) HMem.out h20)
            go_wp2
            go_ret
            exact ⟨ret_bool HE.out.symm, HBn.out⟩
          · have HF2 : Hid (∀ x ∈ rows.take (z + 1), x.news.length ≤ 20) := fun x hx => by
              rw [List.take_add_one, HGe.out] at hx
              rcases List.mem_append.1 hx with h | h
              · exact HF.out x h
              · simp at h; subst h; show news.length ≤ 20; omega
            go_wp2
            go_roundw
            case rel => exact ⟨z + 1, ⟨by omega, by go_num⟩, HF2.out, HCn.out, HBn.out⟩
            case measure => simp [intOf]; omega
        · obtain rfl : z = n2 := by omega
          have HFx : Hid (∀ x ∈ rows, x.news.length ≤ 20) := fun q hq => HF.out q (by rw [List.take_of_length_le (by rw [HL2.out]; exact Nat.le_refl _)]; exact hq)
          have HE := Lib.hid (fewO_end (c := c) (n := n1) HF0.out HFx.out)
          rw [HL0.out, HL2.out] at HE
          have j3 : wr.cell? ⟨w.heap.size, 3, none⟩ = some (.int .i64 c.F) := HCq.out.cell 3
          by_cases g1 : c.F ≤ 200
          case neg =>
            go_wp2
            go_ret
            exact ⟨ret_bool (by rw [HE.out]; simp; intros; omega), HBq.out⟩
          by_cases g2 : k ≤ 8
          case neg =>
            go_wp2
            go_ret
            exact ⟨ret_bool (by rw [HE.out]; simp; intros; omega), HBq.out⟩
          by_cases g3 : n1 ≤ 12
          case neg =>
            go_wp2
            go_ret
            exact ⟨ret_bool (by rw [HE.out]; simp; intros; omega), HBq.out⟩
          go_wp2
          go_ret
          exact ⟨ret_bool (by rw [HE.out]; simp [*]; try omega), HBq.out⟩
end Go.Proofs.Ytjggmimaolddkaa

namespace Go.Proofs.Ytjggmimaolddkaa
open Go.RowKit
set_option linter.unusedVariables false

theorem osame_refl (s : MSt) : SameSt s s := ⟨rfl, fun _ _ => rfl⟩
set_option maxRecDepth 100000 in
set_option maxHeartbeats 16000000 in
theorem parts_walk (cc : Cfg) (ps : List (List Ins)) (A0 : Option Addr) (n0 c0 : Nat) (recs : List Rc7) (A1 : Option Addr) (n1 c1 : Nat) (rows : List Rx) (A2 : Option Addr) (n2 c2 : Nat) (za : Int) (W : World)
    (hp : ProgsIn W W.heap.size A0 n0 ps) (hpk : ∀ q ∈ ps, ∀ i ∈ q, i.Ok) (hc0 : n0 ≤ c0) (hr : RdR W W.heap.size A1 n1 recs) (hrk : ∀ q ∈ recs, q.Wf) (hc1 : n1 ≤ c1) (hrow : RowsIn W W.heap.size A2 n2 rows) (hxk : ∀ x ∈ rows, x.Wf W W.heap.size) (hc2 : n2 ≤ c2)
    (wa : -9223372036854775808 ≤ za ∧ za ≤ 9223372036854775807) :
    Calls Try.prog 5 #[cc.v, .slice A0 n0 c0, .slice A1 n1 c1, .slice A2 n2 c2, .int .i64 za] W fun e w' => e = .returned (.bool true) ∧ Below W.heap.size W w' := by
  have HP := Lib.hid hp
  have HPk := Lib.hid hpk
  have HR := Lib.hid hr
  have HRk : Hid (∀ q ∈ recs, q.Ok) := fun q hq => (hrk q hq).ok
  have HRow := Lib.hid hrow
  have HLn := Lib.hid hrow.len
  have hn1 := hr.le
  have hn2 := hrow.rows.le
  unfold maxLen at hn1 hn2
  unfold Cfg.v
  have HC0 : Hid (Bk (W.alloc (.cells #[.int .i64 cc.T, .int .i64 cc.B, .int .i64 cc.W, .int .i64 cc.F, .int .u64 cc.fi, .int .u64 cc.la] 44)) W.heap.size 44 #[.int .i64 cc.T, .int .i64 cc.B, .int .i64 cc.W, .int .i64 cc.F, .int .u64 cc.fi, .int .u64 cc.la]) := Bk.new W _ _
  have HB0 : Hid (Below W.heap.size W (W.alloc (.cells #[.int .i64 cc.T, .int .i64 cc.B, .int .i64 cc.W, .int .i64 cc.F, .int .u64 cc.fi, .int .u64 cc.la] 44))) := (Below.refl _ _).alloc (Nat.le_refl _) _
  have hfw := fun W1 hp hr => ofew_any cc ps A0 n0 c0 A1 n1 c1 rows A2 n2 c2 W1 hp hn1 hr
  unfold Cfg.v at hfw
  have HFw := Lib.hid hfw
  clear hfw hp hpk hr hrk hrow
  go_enter Try.func5, Try.ntmps5
  go_upto_region 3 with
    (go_at_call 6
     refine (alive17_any _).mono ?_
     rintro e w1 ⟨rfl, hb1⟩
     have HC := Lib.hid (HC0.out.below hb1 HC0.out.lt)
     have HB := Lib.hid (HB0.out.trans (hb1.mono HB0.out.size))
     clear hb1)
  have j0 : w1.cell? ⟨W.heap.size, 0, none⟩ = some (.int .i64 cc.T) := HC.out.cell 0
  have j1 : w1.cell? ⟨W.heap.size, 1, none⟩ = some (.int .i64 cc.B) := HC.out.cell 1
  have j2 : w1.cell? ⟨W.heap.size, 2, none⟩ = some (.int .i64 cc.W) := HC.out.cell 2
  have j3 : w1.cell? ⟨W.heap.size, 3, none⟩ = some (.int .i64 cc.F) := HC.out.cell 3
  have j4 : w1.cell? ⟨W.heap.size, 4, none⟩ = some (.int .u64 cc.fi) := HC.out.cell 4
  have j5 : w1.cell? ⟨W.heap.size, 5, none⟩ = some (.int .u64 cc.la) := HC.out.cell 5
  cases hfe : fewO cc ps n1 rows with
  | false =>
    go_wp2_with
      (go_at_call 10
       refine (HFw.out _ ((HP.out.below HB.out).more HB.out.size) ((HRow.out.below HB.out).more HB.out.size)).mono ?_
       rintro e w2 ⟨rfl, hb2⟩
       rw [hfe]
       have HB := Lib.hid (HB.out.trans (hb2.mono HB.out.size))
       clear hb2)
    go_ret
    exact ⟨rfl, HB.out⟩
  | true =>
  obtain ⟨hf1, hf2, hf3⟩ := fewO_yes hfe
  rw [HLn.out] at hf3
  have HXo : Hid (∀ x ∈ rows, x.Ok) := fun x hx => ⟨(hxk x hx).row, (hxk x hx).news, by have := hf1 x hx; omega⟩
  clear hf1 hxk
  obtain ⟨t0, t1⟩ := and255o za
  obtain ⟨tt, htt⟩ : ∃ tt, bits .and .i64 za 255 = tt := ⟨_, rfl⟩
  rw [htt] at t0 t1
  obtain ⟨t, ht, htn⟩ : ∃ t : Nat, tt.tmod ((n2 : Int) + 1) = (t : Int) ∧ t ≤ n2 := by
    have h1 : 0 ≤ tt.tmod ((n2 : Int) + 1) := Int.tmod_nonneg _ t0
    have h2 : tt.tmod ((n2 : Int) + 1) < (n2 : Int) + 1 := Int.tmod_lt_of_pos _ (by omega)
    exact ⟨(tt.tmod ((n2 : Int) + 1)).toNat, by omega, by omega⟩
  have wt : IntKind.i64.wrap (t : Int) = (t : Int) := IntWalk.i64_in _ (by omega)
  have w1n : IntKind.i64.wrap ((n2 : Int) + 1) = (n2 : Int) + 1 := IntWalk.i64_in _ (by omega)
  have hm0 : ¬ (n2 : Int) + 1 = 0 := by omega
  go_upto_region 6 with
    (go_at_call 10
     refine (HFw.out _ ((HP.out.below HB.out).more HB.out.size) ((HRow.out.below HB.out).more HB.out.size)).mono ?_
     rintro e w2 ⟨rfl, hb2⟩
     rw [hfe]
     have HC := Lib.hid (HC.out.below hb2 HC.out.lt)
     have HB := Lib.hid (HB.out.trans (hb2.mono HB.out.size))
     clear hb2)
  clear j0 j1 j2 j3 j4 j5 hfe htt
  have j0 : w2.cell? ⟨W.heap.size, 0, none⟩ = some (.int .i64 cc.T) := HC.out.cell 0
  have j1 : w2.cell? ⟨W.heap.size, 1, none⟩ = some (.int .i64 cc.B) := HC.out.cell 1
  have j2 : w2.cell? ⟨W.heap.size, 2, none⟩ = some (.int .i64 cc.W) := HC.out.cell 2
  have j3 : w2.cell? ⟨W.heap.size, 3, none⟩ = some (.int .i64 cc.F) := HC.out.cell 3
  have j4 : w2.cell? ⟨W.heap.size, 4, none⟩ = some (.int .u64 cc.fi) := HC.out.cell 4
  have j5 : w2.cell? ⟨W.heap.size, 5, none⟩ = some (.int .u64 cc.la) := HC.out.cell 5
  obtain ⟨A3, hcut3, hrd3⟩ := cut_h (P := Try.prog) (c := c2) 23 rows_elem1 rows_size HRow.out.rows hc2 t (t : Int) rfl htn
  have HR3 : Hid (RowsIn W W.heap.size A3 t (rows.take t)) := by
    refine ⟨?_, fun x hx => HRow.out.news x (List.mem_of_mem_take hx)⟩
    rw [List.map_take]
    show Rd _ _ _ _ _ _
    rw [← rw_take]
    exact hrd3
  have HX3 : Hid (∀ x ∈ rows.take t, x.Ok) := fun x hx => HXo.out x (List.mem_of_mem_take hx)
  have hrpl : ∀ W1, ProgsIn W1 W1.heap.size A0 n0 ps → RdR W1 W1.heap.size A1 n1 recs → RowsIn W1 W1.heap.size A2 n2 rows → Calls Try.prog 11 #[.agg #[.int .i64 cc.T, .int .i64 cc.B, .int .i64 cc.W, .int .i64 cc.F, .int .u64 cc.fi, .int .u64 cc.la], .slice A0 n0 c0, .slice A1 n1 c1, .slice A2 n2 c2] W1 (ReplayPost W1 (replayP cc ps recs rows)) := fun W1 h1 h2 h3 => oreplay_any cc ps recs rows A0 n0 c0 A1 n1 c1 A2 n2 c2 W1 h1 h2 h3 HPk.out HRk.out HXo.out (by omega)
  have hrpl2 : ∀ W1, ProgsIn W1 W1.heap.size A0 n0 ps → RdR W1 W1.heap.size A1 n1 recs → RowsIn W1 W1.heap.size A3 t (rows.take t) → Calls Try.prog 11 #[.agg #[.int .i64 cc.T, .int .i64 cc.B, .int .i64 cc.W, .int .i64 cc.F, .int .u64 cc.fi, .int .u64 cc.la], .slice A0 n0 c0, .slice A1 n1 c1, .slice A3 t c2] W1 (ReplayPost W1 (replayP cc ps recs (rows.take t))) := fun W1 h1 h2 h3 => oreplay_any cc ps recs (rows.take t) A0 n0 c0 A1 n1 c1 A3 t c2 W1 h1 h2 h3 HPk.out HRk.out HX3.out (by omega)
  have hparts := replay_parts cc ps recs rows t
  obtain ⟨R, hR⟩ : ∃ R, replayP cc ps recs rows = R := ⟨_, rfl⟩
  obtain ⟨R2, hR2⟩ : ∃ R2, replayP cc ps recs (rows.take t) = R2 := ⟨_, rfl⟩
  rw [hR, hR2] at hparts
  rw [hR] at hrpl
  rw [hR2] at hrpl2
  rw [HLn.out] at hparts
  have HRp := Lib.hid hrpl
  have HRp2 := Lib.hid hrpl2
  clear hrd3 hR hR2 hrpl hrpl2
  rcases hparts with ⟨s, s2, rfl, rfl, hsame⟩ | ⟨k, y, hy, rfl, rfl | ⟨s2, rfl, hjk⟩⟩
  · have HSame := Lib.hid hsame
    clear hsame
    go_upto_region 7 with
      (go_at_call 11
       refine (HRp.out _ ((HP.out.below HB.out).more HB.out.size) ((HR.out.below HB.out).more HB.out.size) ((HRow.out.below HB.out).more HB.out.size)).mono ?_
       rintro e w3 hrp
       obtain ⟨pv3, rfl, hn3, hs3, hb3⟩ := hrp
       obtain ⟨nb1, sb1, mb1, rfl, hst1, _, _, _⟩ := hs3 s rfl
       have HS1 := Lib.hid hst1
       have HC := Lib.hid (HC.out.below hb3 HC.out.lt)
       have HB := Lib.hid (HB.out.trans (hb3.mono HB.out.size))
       clear hb3 hn3 hs3)
    clear j0 j1 j2 j3 j4 j5
    have j0 : w3.cell? ⟨W.heap.size, 0, none⟩ = some (.int .i64 cc.T) := HC.out.cell 0
    have j1 : w3.cell? ⟨W.heap.size, 1, none⟩ = some (.int .i64 cc.B) := HC.out.cell 1
    have j2 : w3.cell? ⟨W.heap.size, 2, none⟩ = some (.int .i64 cc.W) := HC.out.cell 2
    have j3 : w3.cell? ⟨W.heap.size, 3, none⟩ = some (.int .i64 cc.F) := HC.out.cell 3
    have j4 : w3.cell? ⟨W.heap.size, 4, none⟩ = some (.int .u64 cc.fi) := HC.out.cell 4
    have j5 : w3.cell? ⟨W.heap.size, 5, none⟩ = some (.int .u64 cc.la) := HC.out.cell 5
    refine wp_region_held_drew (S := (fun w' => w'.cell? ⟨W.heap.size, 0, none⟩ = some (.int .i64 cc.T) ∧ w'.cell? ⟨W.heap.size, 1, none⟩ = some (.int .i64 cc.B) ∧ w'.cell? ⟨W.heap.size, 2, none⟩ = some (.int .i64 cc.W) ∧ w'.cell? ⟨W.heap.size, 3, none⟩ = some (.int .i64 cc.F) ∧ w'.cell? ⟨W.heap.size, 4, none⟩ = some (.int .u64 cc.fi) ∧ w'.cell? ⟨W.heap.size, 5, none⟩ = some (.int .u64 cc.la))) (by kernel_rfl) ?_ (fun hHeld => ?_)
    · exact ⟨j0, j1, j2, j3, j4, j5⟩
    refine takeH (v := ?_) 0 rfl rfl rfl rfl (by kernel_rfl) (by kernel_rfl) (by kernel_rfl) (fun _ _ _ _ _ h => h) (by rfl) (by assumption) ?_ ?_
    rotate_left
    · (intro w hSw; (try dsimp only at hSw); go_split_ands; go_simp; try with_reducible rfl)
    try simp only [Act.put, List.setIfInBounds_toArray, List.set_cons_zero, List.set_cons_succ]
    refine takeH (v := ?_) 1 rfl rfl rfl rfl (by kernel_rfl) (by kernel_rfl) (by kernel_rfl) (fun _ _ _ _ _ h => h) (by rfl) (by assumption) ?_ ?_
    rotate_left
    · (intro w hSw; (try dsimp only at hSw); go_split_ands; go_simp; try with_reducible rfl)
    try simp only [Act.put, List.setIfInBounds_toArray, List.set_cons_zero, List.set_cons_succ]
    refine takeH (v := ?_) 2 rfl rfl rfl rfl (by kernel_rfl) (by kernel_rfl) (by kernel_rfl) (fun _ _ _ _ _ h => h) (by rfl) (by assumption) ?_ ?_
    rotate_left
    · (intro w hSw; (try dsimp only at hSw); go_split_ands; go_simp; try with_reducible rfl)
    try simp only [Act.put, List.setIfInBounds_toArray, List.set_cons_zero, List.set_cons_succ]
    refine takeH (v := ?_) 3 rfl rfl rfl rfl (by kernel_rfl) (by kernel_rfl) (by kernel_rfl) (fun _ _ _ _ _ h => h) (by rfl) (by assumption) ?_ ?_
    rotate_left
    · (intro w hSw; (try dsimp only at hSw); go_split_ands; go_simp; try with_reducible rfl)
    try simp only [Act.put, List.setIfInBounds_toArray, List.set_cons_zero, List.set_cons_succ]
    refine takeH (v := ?_) 4 rfl rfl rfl rfl (by kernel_rfl) (by kernel_rfl) (by kernel_rfl) (fun _ _ _ _ _ h => h) (by rfl) (by assumption) ?_ ?_
    rotate_left
    · (intro w hSw; (try dsimp only at hSw); go_split_ands; go_simp; try with_reducible rfl)
    try simp only [Act.put, List.setIfInBounds_toArray, List.set_cons_zero, List.set_cons_succ]
    refine takeH (v := ?_) 5 rfl rfl rfl rfl (by kernel_rfl) (by kernel_rfl) (by kernel_rfl) (fun _ _ _ _ _ h => h) (by rfl) (by assumption) ?_ ?_
    rotate_left
    · (intro w hSw; (try dsimp only at hSw); go_split_ands; go_simp; try with_reducible rfl)
    try simp only [Act.put, List.setIfInBounds_toArray, List.set_cons_zero, List.set_cons_succ]
    refine comeH 6 rfl rfl rfl rfl (by kernel_rfl) (by rfl) (fun K hK => ?_)
    go_simp
    refine (HRp2.out _ ((HP.out.below HB.out.drew).more HB.out.size) ((HR.out.below HB.out.drew).more HB.out.size) ((HR3.out.below HB.out.drew).more HB.out.size)).mono ?_
    rintro e w4 hrp
    obtain ⟨pv4, rfl, hn4, hs4, hb4⟩ := hrp
    obtain ⟨nb2, sb2, mb2, rfl, hst2, _, _, _⟩ := hs4 s2 rfl
    have HS2 := Lib.hid hst2
    have HS1 := Lib.hid ((HS1.out.more (grown_drew _ _)).more (bk_grown_below hb4))
    have HC := Lib.hid (HC.out.drew.below hb4 HC.out.drew.lt)
    have HB := Lib.hid (HB.out.drew.trans (hb4.mono HB.out.size))
    clear hb4 hn4 hs4
    go_simp
    refine hK.out _ _ ?_ (fun hHeld => ?_)
    · exact ⟨HC.out.cell 0, HC.out.cell 1, HC.out.cell 2, HC.out.cell 3, HC.out.cell 4, HC.out.cell 5⟩
    clear hK K
    try simp only [Act.put, List.setIfInBounds_toArray, List.set_cons_zero, List.set_cons_succ]
    refine takeH (v := ?_) 7 rfl rfl rfl rfl (by kernel_rfl) (by kernel_rfl) (by kernel_rfl) (fun _ _ _ _ _ h => h) (by rfl) (by assumption) ?_ ?_
    rotate_left
    · (intro w hSw; (try dsimp only at hSw); go_split_ands; go_simp; try with_reducible rfl)
    try simp only [Act.put, List.setIfInBounds_toArray, List.set_cons_zero, List.set_cons_succ]
    refine takeH (v := ?_) 8 rfl rfl rfl rfl (by kernel_rfl) (by kernel_rfl) (by kernel_rfl) (fun _ _ _ _ _ h => h) (by rfl) (by assumption) ?_ ?_
    rotate_left
    · (intro w hSw; (try dsimp only at hSw); go_split_ands; go_simp; try with_reducible rfl)
    try simp only [Act.put, List.setIfInBounds_toArray, List.set_cons_zero, List.set_cons_succ]
    refine takeH (v := ?_) 9 rfl rfl rfl rfl (by kernel_rfl) (by kernel_rfl) (by kernel_rfl) (fun _ _ _ _ _ h => h) (by rfl) (by assumption) ?_ ?_
    rotate_left
    · (intro w hSw; (try dsimp only at hSw); go_split_ands; go_simp; try with_reducible rfl)
    try simp only [Act.put, List.setIfInBounds_toArray, List.set_cons_zero, List.set_cons_succ]
    refine takeH (v := ?_) 10 rfl rfl rfl rfl (by kernel_rfl) (by kernel_rfl) (by kernel_rfl) (fun _ _ _ _ _ h => h) (by rfl) (by assumption) ?_ ?_
    rotate_left
    · (intro w hSw; (try dsimp only at hSw); go_split_ands; go_simp; try with_reducible rfl)
    try simp only [Act.put, List.setIfInBounds_toArray, List.set_cons_zero, List.set_cons_succ]
    refine takeH (v := ?_) 11 rfl rfl rfl rfl (by kernel_rfl) (by kernel_rfl) (by kernel_rfl) (fun _ _ _ _ _ h => h) (by rfl) (by assumption) ?_ ?_
    rotate_left
    · (intro w hSw; (try dsimp only at hSw); go_split_ands; go_simp; try with_reducible rfl)
    try simp only [Act.put, List.setIfInBounds_toArray, List.set_cons_zero, List.set_cons_succ]
    refine takeH (v := ?_) 12 rfl rfl rfl rfl (by kernel_rfl) (by kernel_rfl) (by kernel_rfl) (fun _ _ _ _ _ h => h) (by rfl) (by assumption) ?_ ?_
    rotate_left
    · (intro w hSw; (try dsimp only at hSw); go_split_ands; go_simp; try with_reducible rfl)
    try simp only [Act.put, List.setIfInBounds_toArray, List.set_cons_zero, List.set_cons_succ]
    refine takeH (v := ?_) 13 rfl rfl rfl rfl (by kernel_rfl) (by kernel_rfl) (by kernel_rfl) (fun _ _ _ _ _ h => h) (by rfl) (by assumption) ?_ ?_
    rotate_left
    · (intro w hSw; (try dsimp only at hSw); go_split_ands; go_simp; try with_reducible rfl)
    try simp only [Act.put, List.setIfInBounds_toArray, List.set_cons_zero, List.set_cons_succ]
    refine wpAnyH_done (by kernel_rfl) ?_ _
    try simp only [Act.put, List.setIfInBounds_toArray, List.set_cons_zero, List.set_cons_succ]
    clear j0 j1 j2 j3 j4 j5 hcut3
    by_cases hlt : t < n2
    · have hlti : (t : Int) < (n2 : Int) := by omega
      go_wp2
      go_ret
      exact ⟨rfl, HB.out⟩
    · have hss := HSame.out (by omega)
      subst hss
      have hlti : ¬ (t : Int) < (n2 : Int) := by omega
      go_wp2_with
        (go_at_call 15
         refine (stsame_any _ _ _ _ s2 _ _ _ _ s2 _ HS1.out HS2.out).mono ?_
         rintro e w5 ⟨r5, rfl, hr5, hg5⟩
         obtain rfl : r5 = true := hr5.2 (osame_refl _)
         have HB := Lib.hid (HB.out.grown hg5 HB.out.size (fun r e => by cases e))
         clear hr5 hg5)
      go_ret
      exact ⟨rfl, HB.out⟩
  · have ey : (y == 0) = false := beq_eq_false_iff_ne.2 hy
    go_upto_region 7 with
      (go_at_call 11
       refine (HRp.out _ ((HP.out.below HB.out).more HB.out.size) ((HR.out.below HB.out).more HB.out.size) ((HRow.out.below HB.out).more HB.out.size)).mono ?_
       rintro e w3 hrp
       obtain ⟨pv3, rfl, hn3, hs3, hb3⟩ := hrp
       obtain rfl := hn3 rfl
       have HC := Lib.hid (HC.out.below hb3 HC.out.lt)
       have HB := Lib.hid (HB.out.trans (hb3.mono HB.out.size))
       clear hb3 hn3 hs3)
    clear j0 j1 j2 j3 j4 j5
    have j0 : w3.cell? ⟨W.heap.size, 0, none⟩ = some (.int .i64 cc.T) := HC.out.cell 0
    have j1 : w3.cell? ⟨W.heap.size, 1, none⟩ = some (.int .i64 cc.B) := HC.out.cell 1
    have j2 : w3.cell? ⟨W.heap.size, 2, none⟩ = some (.int .i64 cc.W) := HC.out.cell 2
    have j3 : w3.cell? ⟨W.heap.size, 3, none⟩ = some (.int .i64 cc.F) := HC.out.cell 3
    have j4 : w3.cell? ⟨W.heap.size, 4, none⟩ = some (.int .u64 cc.fi) := HC.out.cell 4
    have j5 : w3.cell? ⟨W.heap.size, 5, none⟩ = some (.int .u64 cc.la) := HC.out.cell 5
    refine wp_region_held_drew (S := (fun w' => w'.cell? ⟨W.heap.size, 0, none⟩ = some (.int .i64 cc.T) ∧ w'.cell? ⟨W.heap.size, 1, none⟩ = some (.int .i64 cc.B) ∧ w'.cell? ⟨W.heap.size, 2, none⟩ = some (.int .i64 cc.W) ∧ w'.cell? ⟨W.heap.size, 3, none⟩ = some (.int .i64 cc.F) ∧ w'.cell? ⟨W.heap.size, 4, none⟩ = some (.int .u64 cc.fi) ∧ w'.cell? ⟨W.heap.size, 5, none⟩ = some (.int .u64 cc.la))) (by kernel_rfl) ?_ (fun hHeld => ?_)
    · exact ⟨j0, j1, j2, j3, j4, j5⟩
    refine takeH (v := ?_) 0 rfl rfl rfl rfl (by kernel_rfl) (by kernel_rfl) (by kernel_rfl) (fun _ _ _ _ _ h => h) (by rfl) (by assumption) ?_ ?_
    rotate_left
    · (intro w hSw; (try dsimp only at hSw); go_split_ands; go_simp; try with_reducible rfl)
    try simp only [Act.put, List.setIfInBounds_toArray, List.set_cons_zero, List.set_cons_succ]
    refine takeH (v := ?_) 1 rfl rfl rfl rfl (by kernel_rfl) (by kernel_rfl) (by kernel_rfl) (fun _ _ _ _ _ h => h) (by rfl) (by assumption) ?_ ?_
    rotate_left
    · (intro w hSw; (try dsimp only at hSw); go_split_ands; go_simp; try with_reducible rfl)
    try simp only [Act.put, List.setIfInBounds_toArray, List.set_cons_zero, List.set_cons_succ]
    refine takeH (v := ?_) 2 rfl rfl rfl rfl (by kernel_rfl) (by kernel_rfl) (by kernel_rfl) (fun _ _ _ _ _ h => h) (by rfl) (by assumption) ?_ ?_
    rotate_left
    · (intro w hSw; (try dsimp only at hSw); go_split_ands; go_simp; try with_reducible rfl)
    try simp only [Act.put, List.setIfInBounds_toArray, List.set_cons_zero, List.set_cons_succ]
    refine takeH (v := ?_) 3 rfl rfl rfl rfl (by kernel_rfl) (by kernel_rfl) (by kernel_rfl) (fun _ _ _ _ _ h => h) (by rfl) (by assumption) ?_ ?_
    rotate_left
    · (intro w hSw; (try dsimp only at hSw); go_split_ands; go_simp; try with_reducible rfl)
    try simp only [Act.put, List.setIfInBounds_toArray, List.set_cons_zero, List.set_cons_succ]
    refine takeH (v := ?_) 4 rfl rfl rfl rfl (by kernel_rfl) (by kernel_rfl) (by kernel_rfl) (fun _ _ _ _ _ h => h) (by rfl) (by assumption) ?_ ?_
    rotate_left
    · (intro w hSw; (try dsimp only at hSw); go_split_ands; go_simp; try with_reducible rfl)
    try simp only [Act.put, List.setIfInBounds_toArray, List.set_cons_zero, List.set_cons_succ]
    refine takeH (v := ?_) 5 rfl rfl rfl rfl (by kernel_rfl) (by kernel_rfl) (by kernel_rfl) (fun _ _ _ _ _ h => h) (by rfl) (by assumption) ?_ ?_
    rotate_left
    · (intro w hSw; (try dsimp only at hSw); go_split_ands; go_simp; try with_reducible rfl)
    try simp only [Act.put, List.setIfInBounds_toArray, List.set_cons_zero, List.set_cons_succ]
    refine comeH 6 rfl rfl rfl rfl (by kernel_rfl) (by rfl) (fun K hK => ?_)
    go_simp
    refine (HRp2.out _ ((HP.out.below HB.out.drew).more HB.out.size) ((HR.out.below HB.out.drew).more HB.out.size) ((HR3.out.below HB.out.drew).more HB.out.size)).mono ?_
    rintro e w4 hrp
    obtain ⟨pv4, rfl, hn4, hs4, hb4⟩ := hrp
    obtain rfl := hn4 rfl
    have HC := Lib.hid (HC.out.drew.below hb4 HC.out.drew.lt)
    have HB := Lib.hid (HB.out.drew.trans (hb4.mono HB.out.size))
    clear hb4 hn4 hs4
    go_simp
    refine hK.out _ _ ?_ (fun hHeld => ?_)
    · exact ⟨HC.out.cell 0, HC.out.cell 1, HC.out.cell 2, HC.out.cell 3, HC.out.cell 4, HC.out.cell 5⟩
    clear hK K
    try simp only [Act.put, List.setIfInBounds_toArray, List.set_cons_zero, List.set_cons_succ]
    refine takeH (v := ?_) 7 rfl rfl rfl rfl (by kernel_rfl) (by kernel_rfl) (by kernel_rfl) (fun _ _ _ _ _ h => h) (by rfl) (by assumption) ?_ ?_
    rotate_left
    · (intro w hSw; (try dsimp only at hSw); go_split_ands; go_simp; try with_reducible rfl)
    try simp only [Act.put, List.setIfInBounds_toArray, List.set_cons_zero, List.set_cons_succ]
    refine takeH (v := ?_) 8 rfl rfl rfl rfl (by kernel_rfl) (by kernel_rfl) (by kernel_rfl) (fun _ _ _ _ _ h => h) (by rfl) (by assumption) ?_ ?_
    rotate_left
    · (intro w hSw; (try dsimp only at hSw); go_split_ands; go_simp; try with_reducible rfl)
    try simp only [Act.put, List.setIfInBounds_toArray, List.set_cons_zero, List.set_cons_succ]
    refine takeH (v := ?_) 9 rfl rfl rfl rfl (by kernel_rfl) (by kernel_rfl) (by kernel_rfl) (fun _ _ _ _ _ h => h) (by rfl) (by assumption) ?_ ?_
    rotate_left
    · (intro w hSw; (try dsimp only at hSw); go_split_ands; go_simp; try with_reducible rfl)
    try simp only [Act.put, List.setIfInBounds_toArray, List.set_cons_zero, List.set_cons_succ]
    refine takeH (v := ?_) 10 rfl rfl rfl rfl (by kernel_rfl) (by kernel_rfl) (by kernel_rfl) (fun _ _ _ _ _ h => h) (by rfl) (by assumption) ?_ ?_
    rotate_left
    · (intro w hSw; (try dsimp only at hSw); go_split_ands; go_simp; try with_reducible rfl)
    try simp only [Act.put, List.setIfInBounds_toArray, List.set_cons_zero, List.set_cons_succ]
    refine takeH (v := ?_) 11 rfl rfl rfl rfl (by kernel_rfl) (by kernel_rfl) (by kernel_rfl) (fun _ _ _ _ _ h => h) (by rfl) (by assumption) ?_ ?_
    rotate_left
    · (intro w hSw; (try dsimp only at hSw); go_split_ands; go_simp; try with_reducible rfl)
    try simp only [Act.put, List.setIfInBounds_toArray, List.set_cons_zero, List.set_cons_succ]
    refine takeH (v := ?_) 12 rfl rfl rfl rfl (by kernel_rfl) (by kernel_rfl) (by kernel_rfl) (fun _ _ _ _ _ h => h) (by rfl) (by assumption) ?_ ?_
    rotate_left
    · (intro w hSw; (try dsimp only at hSw); go_split_ands; go_simp; try with_reducible rfl)
    try simp only [Act.put, List.setIfInBounds_toArray, List.set_cons_zero, List.set_cons_succ]
    refine takeH (v := ?_) 13 rfl rfl rfl rfl (by kernel_rfl) (by kernel_rfl) (by kernel_rfl) (fun _ _ _ _ _ h => h) (by rfl) (by assumption) ?_ ?_
    rotate_left
    · (intro w hSw; (try dsimp only at hSw); go_split_ands; go_simp; try with_reducible rfl)
    try simp only [Act.put, List.setIfInBounds_toArray, List.set_cons_zero, List.set_cons_succ]
    refine wpAnyH_done (by kernel_rfl) ?_ _
    try simp only [Act.put, List.setIfInBounds_toArray, List.set_cons_zero, List.set_cons_succ]
    clear j0 j1 j2 j3 j4 j5 hcut3
    go_wp2
    go_ret
    exact ⟨rfl, HB.out⟩
  · have ey : (y == 0) = false := beq_eq_false_iff_ne.2 hy
    have hjki : (t : Int) ≤ (k : Int) := by omega
    go_upto_region 7 with
      (go_at_call 11
       refine (HRp.out _ ((HP.out.below HB.out).more HB.out.size) ((HR.out.below HB.out).more HB.out.size) ((HRow.out.below HB.out).more HB.out.size)).mono ?_
       rintro e w3 hrp
       obtain ⟨pv3, rfl, hn3, hs3, hb3⟩ := hrp
       obtain rfl := hn3 rfl
       have HC := Lib.hid (HC.out.below hb3 HC.out.lt)
       have HB := Lib.hid (HB.out.trans (hb3.mono HB.out.size))
       clear hb3 hn3 hs3)
    clear j0 j1 j2 j3 j4 j5
    have j0 : w3.cell? ⟨W.heap.size, 0, none⟩ = some (.int .i64 cc.T) := HC.out.cell 0
    have j1 : w3.cell? ⟨W.heap.size, 1, none⟩ = some (.int .i64 cc.B) := HC.out.cell 1
    have j2 : w3.cell? ⟨W.heap.size, 2, none⟩ = some (.int .i64 cc.W) := HC.out.cell 2
    have j3 : w3.cell? ⟨W.heap.size, 3, none⟩ = some (.int .i64 cc.F) := HC.out.cell 3
    have j4 : w3.cell? ⟨W.heap.size, 4, none⟩ = some (.int .u64 cc.fi) := HC.out.cell 4
    have j5 : w3.cell? ⟨W.heap.size, 5, none⟩ = some (.int .u64 cc.la) := HC.out.cell 5
    refine wp_region_held_drew (S := (fun w' => w'.cell? ⟨W.heap.size, 0, none⟩ = some (.int .i64 cc.T) ∧ w'.cell? ⟨W.heap.size, 1, none⟩ = some (.int .i64 cc.B) ∧ w'.cell? ⟨W.heap.size, 2, none⟩ = some (.int .i64 cc.W) ∧ w'.cell? ⟨W.heap.size, 3, none⟩ = some (.int .i64 cc.F) ∧ w'.cell? ⟨W.heap.size, 4, none⟩ = some (.int .u64 cc.fi) ∧ w'.cell? ⟨W.heap.size, 5, none⟩ = some (.int .u64 cc.la))) (by kernel_rfl) ?_ (fun hHeld => ?_)
    · exact ⟨j0, j1, j2, j3, j4, j5⟩
    refine takeH (v := ?_) 0 rfl rfl rfl rfl (by kernel_rfl) (by kernel_rfl) (by kernel_rfl) (fun _ _ _ _ _ h => h) (by rfl) (by assumption) ?_ ?_
    rotate_left
    · (intro w hSw; (try dsimp only at hSw); go_split_ands; go_simp; try with_reducible rfl)
    try simp only [Act.put, List.setIfInBounds_toArray, List.set_cons_zero, List.set_cons_succ]
    refine takeH (v := ?_) 1 rfl rfl rfl rfl (by kernel_rfl) (by kernel_rfl) (by kernel_rfl) (fun _ _ _ _ _ h => h) (by rfl) (by assumption) ?_ ?_
    rotate_left
    · (intro w hSw; (try dsimp only at hSw); go_split_ands; go_simp; try with_reducible rfl)
    try simp only [Act.put, List.setIfInBounds_toArray, List.set_cons_zero, List.set_cons_succ]
    refine takeH (v := ?_) 2 rfl rfl rfl rfl (by kernel_rfl) (by kernel_rfl) (by kernel_rfl) (fun _ _ _ _ _ h => h) (by rfl) (by assumption) ?_ ?_
    rotate_left
    · (intro w hSw; (try dsimp only at hSw); go_split_ands; go_simp; try with_reducible rfl)
    try simp only [Act.put, List.setIfInBounds_toArray, List.set_cons_zero, List.set_cons_succ]
    refine takeH (v := ?_) 3 rfl rfl rfl rfl (by kernel_rfl) (by kernel_rfl) (by kernel_rfl) (fun _ _ _ _ _ h => h) (by rfl) (by assumption) ?_ ?_
    rotate_left
    · (intro w hSw; (try dsimp only at hSw); go_split_ands; go_simp; try with_reducible rfl)
    try simp only [Act.put, List.setIfInBounds_toArray, List.set_cons_zero, List.set_cons_succ]
    refine takeH (v := ?_) 4 rfl rfl rfl rfl (by kernel_rfl) (by kernel_rfl) (by kernel_rfl) (fun _ _ _ _ _ h => h) (by rfl) (by assumption) ?_ ?_
    rotate_left
    · (intro w hSw; (try dsimp only at hSw); go_split_ands; go_simp; try with_reducible rfl)
    try simp only [Act.put, List.setIfInBounds_toArray, List.set_cons_zero, List.set_cons_succ]
    refine takeH (v := ?_) 5 rfl rfl rfl rfl (by kernel_rfl) (by kernel_rfl) (by kernel_rfl) (fun _ _ _ _ _ h => h) (by rfl) (by assumption) ?_ ?_
    rotate_left
    · (intro w hSw; (try dsimp only at hSw); go_split_ands; go_simp; try with_reducible rfl)
    try simp only [Act.put, List.setIfInBounds_toArray, List.set_cons_zero, List.set_cons_succ]
    refine comeH 6 rfl rfl rfl rfl (by kernel_rfl) (by rfl) (fun K hK => ?_)
    go_simp
    refine (HRp2.out _ ((HP.out.below HB.out.drew).more HB.out.size) ((HR.out.below HB.out.drew).more HB.out.size) ((HR3.out.below HB.out.drew).more HB.out.size)).mono ?_
    rintro e w4 hrp
    obtain ⟨pv4, rfl, hn4, hs4, hb4⟩ := hrp
    obtain ⟨nb2, sb2, mb2, rfl, hst2, _, _, _⟩ := hs4 s2 rfl
    have HS2 := Lib.hid hst2
    have HC := Lib.hid (HC.out.drew.below hb4 HC.out.drew.lt)
    have HB := Lib.hid (HB.out.drew.trans (hb4.mono HB.out.size))
    clear hb4 hn4 hs4
    go_simp
    refine hK.out _ _ ?_ (fun hHeld => ?_)
    · exact ⟨HC.out.cell 0, HC.out.cell 1, HC.out.cell 2, HC.out.cell 3, HC.out.cell 4, HC.out.cell 5⟩
    clear hK K
    try simp only [Act.put, List.setIfInBounds_toArray, List.set_cons_zero, List.set_cons_succ]
    refine takeH (v := ?_) 7 rfl rfl rfl rfl (by kernel_rfl) (by kernel_rfl) (by kernel_rfl) (fun _ _ _ _ _ h => h) (by rfl) (by assumption) ?_ ?_
    rotate_left
    · (intro w hSw; (try dsimp only at hSw); go_split_ands; go_simp; try with_reducible rfl)
    try simp only [Act.put, List.setIfInBounds_toArray, List.set_cons_zero, List.set_cons_succ]
    refine takeH (v := ?_) 8 rfl rfl rfl rfl (by kernel_rfl) (by kernel_rfl) (by kernel_rfl) (fun _ _ _ _ _ h => h) (by rfl) (by assumption) ?_ ?_
    rotate_left
    · (intro w hSw; (try dsimp only at hSw); go_split_ands; go_simp; try with_reducible rfl)
    try simp only [Act.put, List.setIfInBounds_toArray, List.set_cons_zero, List.set_cons_succ]
    refine takeH (v := ?_) 9 rfl rfl rfl rfl (by kernel_rfl) (by kernel_rfl) (by kernel_rfl) (fun _ _ _ _ _ h => h) (by rfl) (by assumption) ?_ ?_
    rotate_left
    · (intro w hSw; (try dsimp only at hSw); go_split_ands; go_simp; try with_reducible rfl)
    try simp only [Act.put, List.setIfInBounds_toArray, List.set_cons_zero, List.set_cons_succ]
    refine takeH (v := ?_) 10 rfl rfl rfl rfl (by kernel_rfl) (by kernel_rfl) (by kernel_rfl) (fun _ _ _ _ _ h => h) (by rfl) (by assumption) ?_ ?_
    rotate_left
    · (intro w hSw; (try dsimp only at hSw); go_split_ands; go_simp; try with_reducible rfl)
    try simp only [Act.put, List.setIfInBounds_toArray, List.set_cons_zero, List.set_cons_succ]
    refine takeH (v := ?_) 11 rfl rfl rfl rfl (by kernel_rfl) (by kernel_rfl) (by kernel_rfl) (fun _ _ _ _ _ h => h) (by rfl) (by assumption) ?_ ?_
    rotate_left
    · (intro w hSw; (try dsimp only at hSw); go_split_ands; go_simp; try with_reducible rfl)
    try simp only [Act.put, List.setIfInBounds_toArray, List.set_cons_zero, List.set_cons_succ]
    refine takeH (v := ?_) 12 rfl rfl rfl rfl (by kernel_rfl) (by kernel_rfl) (by kernel_rfl) (fun _ _ _ _ _ h => h) (by rfl) (by assumption) ?_ ?_
    rotate_left
    · (intro w hSw; (try dsimp only at hSw); go_split_ands; go_simp; try with_reducible rfl)
    try simp only [Act.put, List.setIfInBounds_toArray, List.set_cons_zero, List.set_cons_succ]
    refine takeH (v := ?_) 13 rfl rfl rfl rfl (by kernel_rfl) (by kernel_rfl) (by kernel_rfl) (fun _ _ _ _ _ h => h) (by rfl) (by assumption) ?_ ?_
    rotate_left
    · (intro w hSw; (try dsimp only at hSw); go_split_ands; go_simp; try with_reducible rfl)
    try simp only [Act.put, List.setIfInBounds_toArray, List.set_cons_zero, List.set_cons_succ]
    refine wpAnyH_done (by kernel_rfl) ?_ _
    try simp only [Act.put, List.setIfInBounds_toArray, List.set_cons_zero, List.set_cons_succ]
    clear j0 j1 j2 j3 j4 j5 hcut3
    go_wp2
    go_ret
    exact ⟨rfl, HB.out⟩
end Go.Proofs.Ytjggmimaolddkaa
