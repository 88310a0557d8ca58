/-
  Chapter 25: the law ReportThings: the walk.
-/
import Derived.Test.YthklmcpjlpaklaaDoorRepU
import Derived.Test.YthklmcpjlpaklaaDoorRepK
namespace Go.Proofs.YthklmcpjlpaklaaDoor
open Go.RowKit
set_option linter.unusedVariables false

theorem own_ne {w : World} {base base' size size' n n' : Nat} {e e' : TypeId} {v v' : Value} {xs xs' : List Value} (h : w.ownsRow base e size v n xs) (h' : w.ownsRow base' e' size' v' n' xs') (hne : e ≠ e') : v.ownBlock = none ∨ v.ownBlock ≠ v'.ownBlock := by
  rcases h.2 with ⟨rfl, _⟩ | ⟨g, cap, cur, rfl, _, hg, _⟩
  · exact .inl rfl
  · refine .inr fun hh => ?_
    rcases h'.2 with ⟨rfl, _⟩ | ⟨g', cap', cur', rfl, _, hg', _⟩
    · simp [Value.ownBlock] at hh
    · obtain rfl : g = g' := by simpa [Value.ownBlock] using hh
      rw [hg] at hg'
      simp at hg'
      exact hne hg'.2

theorem Bk.set_other {w : World} {g : Nat} {t : TypeId} {cs : Array Value} (h : Bk w g t cs) {p : Addr} {u : Value} (hp : p.block ≠ g) : Bk (w.setCell p u) g t cs := by
  unfold Bk at h ⊢
  simp only [World.setCell]
  rw [Array.getElem?_modify, if_neg hp]
  exact h
theorem info_pair : (Tryd.prog.info? 64).map (fun i => (i.zero, i.size, i.bytes)) = some (some (.agg #[.int .u64 0, .int .u64 0]), 2, 16) := by kernel_rfl
theorem info_rpair : (Tryd.prog.info? 65).map (fun i => (i.zero, i.size, i.bytes)) = some (some (.agg #[.int .u64 0, .int .u64 0]), 2, 16) := by kernel_rfl
/-- The pairs of a list: each number and its place. -/
def prs (l : List Int) : List (Int × Int) := l.zipIdx.map fun p => (p.1, (p.2 : Int))
theorem prs_len (l : List Int) : (prs l).length = l.length := by simp [prs]
theorem prs_snoc {l : List Int} {k : Nat} {x : Int} (h : l[k]? = some x) : prs (l.take (k + 1)) = prs (l.take k) ++ [(x, (k : Int))] := by
  have hk : k < l.length := (List.getElem?_eq_some_iff.1 h).1
  rw [List.take_add_one, h]
  simp [prs, List.zipIdx_append, Nat.min_eq_left (Nat.le_of_lt hk)]
theorem prs_ok {l : List Int} (h : ∀ x ∈ l, 0 ≤ x ∧ x ≤ 18446744073709551615) (hl : l.length ≤ 30) : ∀ p ∈ prs l, PairOk p := by
  intro p hp
  obtain ⟨q, hq, rfl⟩ := List.mem_map.1 hp
  obtain ⟨x, i⟩ := q
  have h1 := List.mem_zipIdx hq
  simp at h1
  refine ⟨h x (by rw [h1.2]; exact List.getElem_mem _), ?_⟩
  constructor <;> simp <;> omega
theorem pCells_one (l : List (Int × Int)) : ∀ u ∈ pCells l, u.oneCell' = true := by
  intro u hu
  obtain ⟨p, _, hp⟩ := List.mem_flatMap.1 hu
  simp at hp
  rcases hp with rfl | rfl <;> rfl

/-- What the two things are, ahead of their lines: both lines are one. -/
def ThingsCut (root : Int) (g : Nat) (w wx : World) : Prop :=
  ∃ (p0 p1 p2 q0 q1 q2 q3 q4 q5 q6 q7 q8 : Value) (V : ByteArray), Below w.heap.size w wx ∧ g + 1 < wx.heap.size ∧ w.heap.size ≤ g ∧ Bk wx g 46 #[p0, p1, p2] ∧ Bk wx (g + 1) 55 #[q0, q1, q2, q3, q4, q5, q6, q7, q8] ∧
    (p0.oneCell' = true ∧ p1.oneCell' = true ∧ p2.oneCell' = true) ∧ (q0.oneCell' = true ∧ q1.oneCell' = true ∧ q2.oneCell' = true ∧ q3.oneCell' = true ∧ q4.oneCell' = true ∧ q5.oneCell' = true ∧ q6.oneCell' = true ∧ q7.oneCell' = true ∧ q8.oneCell' = true) ∧
    (∀ wy, Below wx.heap.size wx wy → Calls Tryd.prog 13 #[.int .i64 root, .agg #[p0, p1, p2]] wy fun e w' => e = .returned (.string V) ∧ Below wy.heap.size wy w') ∧
    (∀ wy, Below wx.heap.size wx wy → Calls Tryd.prog 14 #[.int .i64 root, .agg #[q0, q1, q2, q3, q4, q5, q6, q7, q8]] wy fun e w' => e = .returned (.string V) ∧ Below wy.heap.size wy w')

theorem two_blocks (X : World) (a b : Array Value) (t u : TypeId) :
    Bk ((X.alloc (.cells a t)).alloc (.cells b u)) X.heap.size t a ∧ Bk ((X.alloc (.cells a t)).alloc (.cells b u)) (X.heap.size + 1) u b ∧
      Below X.heap.size X ((X.alloc (.cells a t)).alloc (.cells b u)) ∧ X.heap.size + 1 < ((X.alloc (.cells a t)).alloc (.cells b u)).heap.size := by
  refine ⟨(Bk.new X t a).alloc _, ?_, ((Below.refl _ _).alloc (Nat.le_refl _) _).alloc (by simp) _, by simp⟩
  have := Bk.new (X.alloc (.cells a t)) u b
  simpa using this
theorem three_blocks (X : World) (a b d : Array Value) (t u v : TypeId) :
    Bk (((X.alloc (.cells a t)).alloc (.cells b u)).alloc (.cells d v)) X.heap.size t a ∧ Bk (((X.alloc (.cells a t)).alloc (.cells b u)).alloc (.cells d v)) (X.heap.size + 1) u b ∧
      Bk (((X.alloc (.cells a t)).alloc (.cells b u)).alloc (.cells d v)) (X.heap.size + 1 + 1) v d ∧
      Below X.heap.size X (((X.alloc (.cells a t)).alloc (.cells b u)).alloc (.cells d v)) ∧ X.heap.size + 1 + 1 < (((X.alloc (.cells a t)).alloc (.cells b u)).alloc (.cells d v)).heap.size := by
  obtain ⟨h0, h1, h2, h3⟩ := two_blocks X a b t u
  refine ⟨h0.alloc _, h1.alloc _, ?_, h2.alloc (by simp; omega) _, by simp⟩
  have := Bk.new ((X.alloc (.cells a t)).alloc (.cells b u)) v d
  simpa using this
set_option maxRecDepth 100000 in
set_option maxHeartbeats 8000000 in
theorem things_walk (root kind limit : Int) (l : List Int) (A : Option Addr) (n c : Nat) (w : World) (htab : PowTab w) (hroot : -9223372036854775808 ≤ root ∧ root ≤ 9223372036854775807) (hkind : -9223372036854775808 ≤ kind ∧ kind ≤ 9223372036854775807) (hlim : 0 ≤ limit ∧ limit ≤ 18446744073709551615)
    (hr : RdU w w.heap.size A n l) (hok : ∀ x ∈ l, 0 ≤ x ∧ x ≤ 18446744073709551615) (hc : n ≤ c) :
    Calls Tryd.prog 4 #[.int .i64 root, .int .i64 kind, .int .u64 limit, .slice A n c] w fun e w' => e = .returned (.bool true) ∧ Below w.heap.size w w' := by
  have HT := Lib.hid htab
  have HR := Lib.hid hr
  have HK := Lib.hid hok
  have HRt := Lib.hid hroot
  have HKd := Lib.hid hkind
  have HLm := Lib.hid hlim
  have hle := hr.le
  clear htab hr hok hc hroot hkind hlim
  go_enter Tryd.func4, Tryd.ntmps4
  go_wp2_with fail
  refine (alive_any _ HT.out).mono ?_
  rintro e X2 ⟨rfl, hb2⟩
  have HB2 := Lib.hid hb2
  have hz2 := hb2.size
  clear hb2
  by_cases hn : 30 < n
  · go_wp2
    go_ret
    exact ⟨rfl, HB2.out⟩
  have hnd : decide ((30 : Int) < (n : Int)) = false := decide_eq_false (by omega)
  have hcs : ((bits BinOp.and IntKind.i64 kind 3 == 0) = true) ∨ ((bits BinOp.and IntKind.i64 kind 3 == 0) = false ∧ (bits BinOp.and IntKind.i64 kind 3 == 1) = true) ∨ ((bits BinOp.and IntKind.i64 kind 3 == 0) = false ∧ (bits BinOp.and IntKind.i64 kind 3 == 1) = false ∧ (bits BinOp.and IntKind.i64 kind 3 == 2) = true) ∨ ((bits BinOp.and IntKind.i64 kind 3 == 0) = false ∧ (bits BinOp.and IntKind.i64 kind 3 == 1) = false ∧ (bits BinOp.and IntKind.i64 kind 3 == 2) = false) := by
    cases (bits BinOp.and IntKind.i64 kind 3 == 0) <;> cases (bits BinOp.and IntKind.i64 kind 3 == 1) <;> cases (bits BinOp.and IntKind.i64 kind 3 == 2) <;> simp
  rcases hcs with g0 | ⟨g0, g1⟩ | ⟨g0, g1, g2⟩ | ⟨g0, g1, g2⟩
  · go_wp2
    obtain ⟨X5, hX5⟩ : ∃ X5, ((X2.alloc (.cells #[.pointer (some ⟨X2.heap.size + 1 + 1, 0, none⟩), .pointer none, .pointer none] 46)).alloc (.cells #[.bool true, .int .u64 limit, .slice A n c, .bool false, .int .u64 0, .slice none 0 0, .bool false, .int .u64 0, .slice none 0 0] 55)).alloc (.cells #[.int .u64 limit, .slice A n c] 57) = X5 := ⟨_, rfl⟩
    obtain ⟨b0, b1, b2, b3, b4⟩ := three_blocks X2 #[.pointer (some ⟨X2.heap.size + 1 + 1, 0, none⟩), .pointer none, .pointer none] #[.bool true, .int .u64 limit, .slice A n c, .bool false, .int .u64 0, .slice none 0 0, .bool false, .int .u64 0, .slice none 0 0] #[.int .u64 limit, .slice A n c] 46 55 57
    rw [hX5] at b0 b1 b2 b3 b4
    have hcut : Hid (ThingsCut root X2.heap.size w X5) := by
      have hB5 := HB2.out.trans (b3.mono hz2)
      refine ⟨_, _, _, _, _, _, _, _, _, _, _, _, str (thingP root [113, 117, 101, 117, 101] limit (l.map dec)), hB5, by omega, hz2, b0, b1, ⟨rfl, rfl, rfl⟩, ⟨rfl, rfl, rfl, rfl, rfl, rfl, rfl, rfl, rfl⟩, fun wy hy => ?_, fun wy hy => ?_⟩
      · exact thing_queue root limit l _ A n c wy (Nat.lt_of_lt_of_le b4 hy.size) ((b2.below hy b4).cell 0) ((b2.below hy b4).cell 1) (((HR.out.below hB5).more hB5.size |>.below hy).more hy.size) HRt.out.1 HRt.out.2 HLm.out.1 HLm.out.2 HK.out (by omega) ((HT.out.below hB5).below hy)
      · exact rthing_queue root limit l A n c wy (((HR.out.below hB5).more hB5.size |>.below hy).more hy.size) HRt.out.1 HRt.out.2 HLm.out.1 HLm.out.2 HK.out (by omega)
    rw [hX5]
    clear hX5 b0 b1 b2 b3 b4
    obtain ⟨p0, p1, p2, q0, q1, q2, q3, q4, q5, q6, q7, q8, V, hbw, hlt, hge, hb0, hb1, ⟨o0, o1, o2⟩, ⟨r0, r1, r2, r3, r4, r5, r6, r7, r8⟩, hT, hU⟩ := hcut.out
    have HTg := Lib.hid hT
    have HUg := Lib.hid hU
    have HBw := Lib.hid hbw
    have BK0 := Lib.hid hb0
    have BK1 := Lib.hid hb1
    have Hz := Lib.hid hz2
    clear hcut hT hU hbw hb0 hb1 hz2 HB2 HT HR HK HRt HKd HLm
    have HBd := Lib.hid ((Below.refl X5.heap.size X5).drew)
    have hzd : X5.heap.size ≤ X5.drew.heap.size := Nat.le_refl _
    have BK0d : Hid (Bk X5.drew X2.heap.size 46 #[p0, p1, p2]) := BK0.out.drew
    have BK1d : Hid (Bk X5.drew (X2.heap.size + 1) 55 #[q0, q1, q2, q3, q4, q5, q6, q7, q8]) := BK1.out.drew
    have dp0 : X5.cell? ⟨X2.heap.size, 0, none⟩ = some p0 := (BK0.out.cell 0).trans rfl
    have dp1 : X5.cell? ⟨X2.heap.size, 1, none⟩ = some p1 := (BK0.out.cell 1).trans rfl
    have dp2 : X5.cell? ⟨X2.heap.size, 2, none⟩ = some p2 := (BK0.out.cell 2).trans rfl
    have dq0 : X5.cell? ⟨X2.heap.size + 1, 0, none⟩ = some q0 := (BK1.out.cell 0).trans rfl
    have dq1 : X5.cell? ⟨X2.heap.size + 1, 1, none⟩ = some q1 := (BK1.out.cell 1).trans rfl
    have dq2 : X5.cell? ⟨X2.heap.size + 1, 2, none⟩ = some q2 := (BK1.out.cell 2).trans rfl
    have dq3 : X5.cell? ⟨X2.heap.size + 1, 3, none⟩ = some q3 := (BK1.out.cell 3).trans rfl
    have dq4 : X5.cell? ⟨X2.heap.size + 1, 4, none⟩ = some q4 := (BK1.out.cell 4).trans rfl
    have dq5 : X5.cell? ⟨X2.heap.size + 1, 5, none⟩ = some q5 := (BK1.out.cell 5).trans rfl
    have dq6 : X5.cell? ⟨X2.heap.size + 1, 6, none⟩ = some q6 := (BK1.out.cell 6).trans rfl
    have dq7 : X5.cell? ⟨X2.heap.size + 1, 7, none⟩ = some q7 := (BK1.out.cell 7).trans rfl
    have dq8 : X5.cell? ⟨X2.heap.size + 1, 8, none⟩ = some q8 := (BK1.out.cell 8).trans rfl
    have ep0 : X5.drew.cell? ⟨X2.heap.size, 0, none⟩ = some p0 := (BK0d.out.cell 0).trans rfl
    have ep1 : X5.drew.cell? ⟨X2.heap.size, 1, none⟩ = some p1 := (BK0d.out.cell 1).trans rfl
    have ep2 : X5.drew.cell? ⟨X2.heap.size, 2, none⟩ = some p2 := (BK0d.out.cell 2).trans rfl
    have eq0 : X5.drew.cell? ⟨X2.heap.size + 1, 0, none⟩ = some q0 := (BK1d.out.cell 0).trans rfl
    have eq1 : X5.drew.cell? ⟨X2.heap.size + 1, 1, none⟩ = some q1 := (BK1d.out.cell 1).trans rfl
    have eq2 : X5.drew.cell? ⟨X2.heap.size + 1, 2, none⟩ = some q2 := (BK1d.out.cell 2).trans rfl
    have eq3 : X5.drew.cell? ⟨X2.heap.size + 1, 3, none⟩ = some q3 := (BK1d.out.cell 3).trans rfl
    have eq4 : X5.drew.cell? ⟨X2.heap.size + 1, 4, none⟩ = some q4 := (BK1d.out.cell 4).trans rfl
    have eq5 : X5.drew.cell? ⟨X2.heap.size + 1, 5, none⟩ = some q5 := (BK1d.out.cell 5).trans rfl
    have eq6 : X5.drew.cell? ⟨X2.heap.size + 1, 6, none⟩ = some q6 := (BK1d.out.cell 6).trans rfl
    have eq7 : X5.drew.cell? ⟨X2.heap.size + 1, 7, none⟩ = some q7 := (BK1d.out.cell 7).trans rfl
    have eq8 : X5.drew.cell? ⟨X2.heap.size + 1, 8, none⟩ = some q8 := (BK1d.out.cell 8).trans rfl
    go_region_held3 (fun w' => w'.cell? ⟨X2.heap.size, 0, none⟩ = some p0 ∧ w'.cell? ⟨X2.heap.size, 1, none⟩ = some p1 ∧ w'.cell? ⟨X2.heap.size, 2, none⟩ = some p2 ∧ w'.cell? ⟨X2.heap.size + 1, 0, none⟩ = some q0 ∧ w'.cell? ⟨X2.heap.size + 1, 1, none⟩ = some q1 ∧ w'.cell? ⟨X2.heap.size + 1, 2, none⟩ = some q2 ∧ w'.cell? ⟨X2.heap.size + 1, 3, none⟩ = some q3 ∧ w'.cell? ⟨X2.heap.size + 1, 4, none⟩ = some q4 ∧ w'.cell? ⟨X2.heap.size + 1, 5, none⟩ = some q5 ∧ w'.cell? ⟨X2.heap.size + 1, 6, none⟩ = some q6 ∧ w'.cell? ⟨X2.heap.size + 1, 7, none⟩ = some q7 ∧ w'.cell? ⟨X2.heap.size + 1, 8, none⟩ = some q8)
      (first | exact ⟨ep0, ep1, ep2, eq0, eq1, eq2, eq3, eq4, eq5, eq6, eq7, eq8⟩ | exact ⟨dp0, dp1, dp2, dq0, dq1, dq2, dq3, dq4, dq5, dq6, dq7, dq8⟩ | go_keep)
      (first
        | (go_at_call 13
           refine (HTg.out _ HBd.out).mono ?_
           rintro e wn ⟨rfl, hbn⟩
           have BK0d := Lib.hid (BK0d.out.below hbn BK0d.out.lt)
           have BK1d := Lib.hid (BK1d.out.below hbn BK1d.out.lt)
           have HBd := Lib.hid (HBd.out.trans (hbn.mono hzd))
           have hzd := HBd.out.size
           have ep0 : wn.cell? ⟨X2.heap.size, 0, none⟩ = some p0 := (BK0d.out.cell 0).trans rfl
           have ep1 : wn.cell? ⟨X2.heap.size, 1, none⟩ = some p1 := (BK0d.out.cell 1).trans rfl
           have ep2 : wn.cell? ⟨X2.heap.size, 2, none⟩ = some p2 := (BK0d.out.cell 2).trans rfl
           have eq0 : wn.cell? ⟨X2.heap.size + 1, 0, none⟩ = some q0 := (BK1d.out.cell 0).trans rfl
           have eq1 : wn.cell? ⟨X2.heap.size + 1, 1, none⟩ = some q1 := (BK1d.out.cell 1).trans rfl
           have eq2 : wn.cell? ⟨X2.heap.size + 1, 2, none⟩ = some q2 := (BK1d.out.cell 2).trans rfl
           have eq3 : wn.cell? ⟨X2.heap.size + 1, 3, none⟩ = some q3 := (BK1d.out.cell 3).trans rfl
           have eq4 : wn.cell? ⟨X2.heap.size + 1, 4, none⟩ = some q4 := (BK1d.out.cell 4).trans rfl
           have eq5 : wn.cell? ⟨X2.heap.size + 1, 5, none⟩ = some q5 := (BK1d.out.cell 5).trans rfl
           have eq6 : wn.cell? ⟨X2.heap.size + 1, 6, none⟩ = some q6 := (BK1d.out.cell 6).trans rfl
           have eq7 : wn.cell? ⟨X2.heap.size + 1, 7, none⟩ = some q7 := (BK1d.out.cell 7).trans rfl
           have eq8 : wn.cell? ⟨X2.heap.size + 1, 8, none⟩ = some q8 := (BK1d.out.cell 8).trans rfl
           clear hbn)
        | (go_at_call 14
           refine (HUg.out _ HBd.out).mono ?_
           rintro e wn ⟨rfl, hbn⟩
           have BK0d := Lib.hid (BK0d.out.below hbn BK0d.out.lt)
           have BK1d := Lib.hid (BK1d.out.below hbn BK1d.out.lt)
           have HBd := Lib.hid (HBd.out.trans (hbn.mono hzd))
           have hzd := HBd.out.size
           have ep0 : wn.cell? ⟨X2.heap.size, 0, none⟩ = some p0 := (BK0d.out.cell 0).trans rfl
           have ep1 : wn.cell? ⟨X2.heap.size, 1, none⟩ = some p1 := (BK0d.out.cell 1).trans rfl
           have ep2 : wn.cell? ⟨X2.heap.size, 2, none⟩ = some p2 := (BK0d.out.cell 2).trans rfl
           have eq0 : wn.cell? ⟨X2.heap.size + 1, 0, none⟩ = some q0 := (BK1d.out.cell 0).trans rfl
           have eq1 : wn.cell? ⟨X2.heap.size + 1, 1, none⟩ = some q1 := (BK1d.out.cell 1).trans rfl
           have eq2 : wn.cell? ⟨X2.heap.size + 1, 2, none⟩ = some q2 := (BK1d.out.cell 2).trans rfl
           have eq3 : wn.cell? ⟨X2.heap.size + 1, 3, none⟩ = some q3 := (BK1d.out.cell 3).trans rfl
           have eq4 : wn.cell? ⟨X2.heap.size + 1, 4, none⟩ = some q4 := (BK1d.out.cell 4).trans rfl
           have eq5 : wn.cell? ⟨X2.heap.size + 1, 5, none⟩ = some q5 := (BK1d.out.cell 5).trans rfl
           have eq6 : wn.cell? ⟨X2.heap.size + 1, 6, none⟩ = some q6 := (BK1d.out.cell 6).trans rfl
           have eq7 : wn.cell? ⟨X2.heap.size + 1, 7, none⟩ = some q7 := (BK1d.out.cell 7).trans rfl
           have eq8 : wn.cell? ⟨X2.heap.size + 1, 8, none⟩ = some q8 := (BK1d.out.cell 8).trans rfl
           clear hbn))
    all_goals
      have HBe := Lib.hid (HBw.out.trans (HBd.out.mono HBw.out.size))
      go_wp2
      go_ret
      exact ⟨ret_bool (by simp), HBe.out⟩
  · go_wp2
    obtain ⟨X5, hX5⟩ : ∃ X5, ((X2.alloc (.cells #[.pointer none, .pointer (some ⟨X2.heap.size + 1 + 1, 0, none⟩), .pointer none] 46)).alloc (.cells #[.bool false, .int .u64 0, .slice none 0 0, .bool true, .int .u64 limit, .slice A n c, .bool false, .int .u64 0, .slice none 0 0] 55)).alloc (.cells #[.int .u64 limit, .slice A n c] 59) = X5 := ⟨_, rfl⟩
    obtain ⟨b0, b1, b2, b3, b4⟩ := three_blocks X2 #[.pointer none, .pointer (some ⟨X2.heap.size + 1 + 1, 0, none⟩), .pointer none] #[.bool false, .int .u64 0, .slice none 0 0, .bool true, .int .u64 limit, .slice A n c, .bool false, .int .u64 0, .slice none 0 0] #[.int .u64 limit, .slice A n c] 46 55 59
    rw [hX5] at b0 b1 b2 b3 b4
    have hcut : Hid (ThingsCut root X2.heap.size w X5) := by
      have hB5 := HB2.out.trans (b3.mono hz2)
      refine ⟨_, _, _, _, _, _, _, _, _, _, _, _, str (thingP root [99, 104, 97, 105, 110] limit (l.map dec)), hB5, by omega, hz2, b0, b1, ⟨rfl, rfl, rfl⟩, ⟨rfl, rfl, rfl, rfl, rfl, rfl, rfl, rfl, rfl⟩, fun wy hy => ?_, fun wy hy => ?_⟩
      · exact thing_chain root limit l _ A n c wy (Nat.lt_of_lt_of_le b4 hy.size) ((b2.below hy b4).cell 0) ((b2.below hy b4).cell 1) (((HR.out.below hB5).more hB5.size |>.below hy).more hy.size) HRt.out.1 HRt.out.2 HLm.out.1 HLm.out.2 HK.out (by omega) ((HT.out.below hB5).below hy)
      · exact rthing_chain root limit l A n c wy (((HR.out.below hB5).more hB5.size |>.below hy).more hy.size) HRt.out.1 HRt.out.2 HLm.out.1 HLm.out.2 HK.out (by omega)
    rw [hX5]
    clear hX5 b0 b1 b2 b3 b4
    obtain ⟨p0, p1, p2, q0, q1, q2, q3, q4, q5, q6, q7, q8, V, hbw, hlt, hge, hb0, hb1, ⟨o0, o1, o2⟩, ⟨r0, r1, r2, r3, r4, r5, r6, r7, r8⟩, hT, hU⟩ := hcut.out
    have HTg := Lib.hid hT
    have HUg := Lib.hid hU
    have HBw := Lib.hid hbw
    have BK0 := Lib.hid hb0
    have BK1 := Lib.hid hb1
    have Hz := Lib.hid hz2
    clear hcut hT hU hbw hb0 hb1 hz2 HB2 HT HR HK HRt HKd HLm
    have HBd := Lib.hid ((Below.refl X5.heap.size X5).drew)
    have hzd : X5.heap.size ≤ X5.drew.heap.size := Nat.le_refl _
    have BK0d : Hid (Bk X5.drew X2.heap.size 46 #[p0, p1, p2]) := BK0.out.drew
    have BK1d : Hid (Bk X5.drew (X2.heap.size + 1) 55 #[q0, q1, q2, q3, q4, q5, q6, q7, q8]) := BK1.out.drew
    have dp0 : X5.cell? ⟨X2.heap.size, 0, none⟩ = some p0 := (BK0.out.cell 0).trans rfl
    have dp1 : X5.cell? ⟨X2.heap.size, 1, none⟩ = some p1 := (BK0.out.cell 1).trans rfl
    have dp2 : X5.cell? ⟨X2.heap.size, 2, none⟩ = some p2 := (BK0.out.cell 2).trans rfl
    have dq0 : X5.cell? ⟨X2.heap.size + 1, 0, none⟩ = some q0 := (BK1.out.cell 0).trans rfl
    have dq1 : X5.cell? ⟨X2.heap.size + 1, 1, none⟩ = some q1 := (BK1.out.cell 1).trans rfl
    have dq2 : X5.cell? ⟨X2.heap.size + 1, 2, none⟩ = some q2 := (BK1.out.cell 2).trans rfl
    have dq3 : X5.cell? ⟨X2.heap.size + 1, 3, none⟩ = some q3 := (BK1.out.cell 3).trans rfl
    have dq4 : X5.cell? ⟨X2.heap.size + 1, 4, none⟩ = some q4 := (BK1.out.cell 4).trans rfl
    have dq5 : X5.cell? ⟨X2.heap.size + 1, 5, none⟩ = some q5 := (BK1.out.cell 5).trans rfl
    have dq6 : X5.cell? ⟨X2.heap.size + 1, 6, none⟩ = some q6 := (BK1.out.cell 6).trans rfl
    have dq7 : X5.cell? ⟨X2.heap.size + 1, 7, none⟩ = some q7 := (BK1.out.cell 7).trans rfl
    have dq8 : X5.cell? ⟨X2.heap.size + 1, 8, none⟩ = some q8 := (BK1.out.cell 8).trans rfl
    have ep0 : X5.drew.cell? ⟨X2.heap.size, 0, none⟩ = some p0 := (BK0d.out.cell 0).trans rfl
    have ep1 : X5.drew.cell? ⟨X2.heap.size, 1, none⟩ = some p1 := (BK0d.out.cell 1).trans rfl
    have ep2 : X5.drew.cell? ⟨X2.heap.size, 2, none⟩ = some p2 := (BK0d.out.cell 2).trans rfl
    have eq0 : X5.drew.cell? ⟨X2.heap.size + 1, 0, none⟩ = some q0 := (BK1d.out.cell 0).trans rfl
    have eq1 : X5.drew.cell? ⟨X2.heap.size + 1, 1, none⟩ = some q1 := (BK1d.out.cell 1).trans rfl
    have eq2 : X5.drew.cell? ⟨X2.heap.size + 1, 2, none⟩ = some q2 := (BK1d.out.cell 2).trans rfl
    have eq3 : X5.drew.cell? ⟨X2.heap.size + 1, 3, none⟩ = some q3 := (BK1d.out.cell 3).trans rfl
    have eq4 : X5.drew.cell? ⟨X2.heap.size + 1, 4, none⟩ = some q4 := (BK1d.out.cell 4).trans rfl
    have eq5 : X5.drew.cell? ⟨X2.heap.size + 1, 5, none⟩ = some q5 := (BK1d.out.cell 5).trans rfl
    have eq6 : X5.drew.cell? ⟨X2.heap.size + 1, 6, none⟩ = some q6 := (BK1d.out.cell 6).trans rfl
    have eq7 : X5.drew.cell? ⟨X2.heap.size + 1, 7, none⟩ = some q7 := (BK1d.out.cell 7).trans rfl
    have eq8 : X5.drew.cell? ⟨X2.heap.size + 1, 8, none⟩ = some q8 := (BK1d.out.cell 8).trans rfl
    go_region_held3 (fun w' => w'.cell? ⟨X2.heap.size, 0, none⟩ = some p0 ∧ w'.cell? ⟨X2.heap.size, 1, none⟩ = some p1 ∧ w'.cell? ⟨X2.heap.size, 2, none⟩ = some p2 ∧ w'.cell? ⟨X2.heap.size + 1, 0, none⟩ = some q0 ∧ w'.cell? ⟨X2.heap.size + 1, 1, none⟩ = some q1 ∧ w'.cell? ⟨X2.heap.size + 1, 2, none⟩ = some q2 ∧ w'.cell? ⟨X2.heap.size + 1, 3, none⟩ = some q3 ∧ w'.cell? ⟨X2.heap.size + 1, 4, none⟩ = some q4 ∧ w'.cell? ⟨X2.heap.size + 1, 5, none⟩ = some q5 ∧ w'.cell? ⟨X2.heap.size + 1, 6, none⟩ = some q6 ∧ w'.cell? ⟨X2.heap.size + 1, 7, none⟩ = some q7 ∧ w'.cell? ⟨X2.heap.size + 1, 8, none⟩ = some q8)
      (first | exact ⟨ep0, ep1, ep2, eq0, eq1, eq2, eq3, eq4, eq5, eq6, eq7, eq8⟩ | exact ⟨dp0, dp1, dp2, dq0, dq1, dq2, dq3, dq4, dq5, dq6, dq7, dq8⟩ | go_keep)
      (first
        | (go_at_call 13
           refine (HTg.out _ HBd.out).mono ?_
           rintro e wn ⟨rfl, hbn⟩
           have BK0d := Lib.hid (BK0d.out.below hbn BK0d.out.lt)
           have BK1d := Lib.hid (BK1d.out.below hbn BK1d.out.lt)
           have HBd := Lib.hid (HBd.out.trans (hbn.mono hzd))
           have hzd := HBd.out.size
           have ep0 : wn.cell? ⟨X2.heap.size, 0, none⟩ = some p0 := (BK0d.out.cell 0).trans rfl
           have ep1 : wn.cell? ⟨X2.heap.size, 1, none⟩ = some p1 := (BK0d.out.cell 1).trans rfl
           have ep2 : wn.cell? ⟨X2.heap.size, 2, none⟩ = some p2 := (BK0d.out.cell 2).trans rfl
           have eq0 : wn.cell? ⟨X2.heap.size + 1, 0, none⟩ = some q0 := (BK1d.out.cell 0).trans rfl
           have eq1 : wn.cell? ⟨X2.heap.size + 1, 1, none⟩ = some q1 := (BK1d.out.cell 1).trans rfl
           have eq2 : wn.cell? ⟨X2.heap.size + 1, 2, none⟩ = some q2 := (BK1d.out.cell 2).trans rfl
           have eq3 : wn.cell? ⟨X2.heap.size + 1, 3, none⟩ = some q3 := (BK1d.out.cell 3).trans rfl
           have eq4 : wn.cell? ⟨X2.heap.size + 1, 4, none⟩ = some q4 := (BK1d.out.cell 4).trans rfl
           have eq5 : wn.cell? ⟨X2.heap.size + 1, 5, none⟩ = some q5 := (BK1d.out.cell 5).trans rfl
           have eq6 : wn.cell? ⟨X2.heap.size + 1, 6, none⟩ = some q6 := (BK1d.out.cell 6).trans rfl
           have eq7 : wn.cell? ⟨X2.heap.size + 1, 7, none⟩ = some q7 := (BK1d.out.cell 7).trans rfl
           have eq8 : wn.cell? ⟨X2.heap.size + 1, 8, none⟩ = some q8 := (BK1d.out.cell 8).trans rfl
           clear hbn)
        | (go_at_call 14
           refine (HUg.out _ HBd.out).mono ?_
           rintro e wn ⟨rfl, hbn⟩
           have BK0d := Lib.hid (BK0d.out.below hbn BK0d.out.lt)
           have BK1d := Lib.hid (BK1d.out.below hbn BK1d.out.lt)
           have HBd := Lib.hid (HBd.out.trans (hbn.mono hzd))
           have hzd := HBd.out.size
           have ep0 : wn.cell? ⟨X2.heap.size, 0, none⟩ = some p0 := (BK0d.out.cell 0).trans rfl
           have ep1 : wn.cell? ⟨X2.heap.size, 1, none⟩ = some p1 := (BK0d.out.cell 1).trans rfl
           have ep2 : wn.cell? ⟨X2.heap.size, 2, none⟩ = some p2 := (BK0d.out.cell 2).trans rfl
           have eq0 : wn.cell? ⟨X2.heap.size + 1, 0, none⟩ = some q0 := (BK1d.out.cell 0).trans rfl
           have eq1 : wn.cell? ⟨X2.heap.size + 1, 1, none⟩ = some q1 := (BK1d.out.cell 1).trans rfl
           have eq2 : wn.cell? ⟨X2.heap.size + 1, 2, none⟩ = some q2 := (BK1d.out.cell 2).trans rfl
           have eq3 : wn.cell? ⟨X2.heap.size + 1, 3, none⟩ = some q3 := (BK1d.out.cell 3).trans rfl
           have eq4 : wn.cell? ⟨X2.heap.size + 1, 4, none⟩ = some q4 := (BK1d.out.cell 4).trans rfl
           have eq5 : wn.cell? ⟨X2.heap.size + 1, 5, none⟩ = some q5 := (BK1d.out.cell 5).trans rfl
           have eq6 : wn.cell? ⟨X2.heap.size + 1, 6, none⟩ = some q6 := (BK1d.out.cell 6).trans rfl
           have eq7 : wn.cell? ⟨X2.heap.size + 1, 7, none⟩ = some q7 := (BK1d.out.cell 7).trans rfl
           have eq8 : wn.cell? ⟨X2.heap.size + 1, 8, none⟩ = some q8 := (BK1d.out.cell 8).trans rfl
           clear hbn))
    all_goals
      have HBe := Lib.hid (HBw.out.trans (HBd.out.mono HBw.out.size))
      go_wp2
      go_ret
      exact ⟨ret_bool (by simp), HBe.out⟩
  · go_wp2
    obtain ⟨i1, hi1, hy0, hy1, hy2⟩ := info_parts info_pair
    obtain ⟨i2, hi2, hv0, hv1, hv2⟩ := info_parts info_rpair
    obtain ⟨X4, hX4⟩ : ∃ X4, ((X2.alloc (.cells #[.pointer none, .pointer none, .pointer (some ⟨X2.heap.size + 1 + 1, 0, none⟩)] 46)).alloc (.cells #[.bool false, .int .u64 0, .slice none 0 0, .bool false, .int .u64 0, .slice none 0 0, .bool true, .int .u64 limit, .slice none 0 0] 55)).alloc (.cells #[.int .u64 limit, .slice none 0 0] 62) = X4 := ⟨_, rfl⟩
    obtain ⟨b0, b1, b2, b3, b4⟩ := three_blocks X2 #[.pointer none, .pointer none, .pointer (some ⟨X2.heap.size + 1 + 1, 0, none⟩)] #[.bool false, .int .u64 0, .slice none 0 0, .bool false, .int .u64 0, .slice none 0 0, .bool true, .int .u64 limit, .slice none 0 0] #[.int .u64 limit, .slice none 0 0] 46 55 62
    rw [hX4] at b0 b1 b2 b3 b4 ⊢
    have J0 := Lib.hid b0
    have J1 := Lib.hid b1
    have J2 := Lib.hid b2
    have JB := Lib.hid (HB2.out.trans (b3.mono hz2))
    clear hX4 b0 b1 b2 b3 b4
    go_loopw [55, 11, 12] (fun i _u _v wr => ∃ (k : Nat) (v1 v2 : Value), (k ≤ n ∧ i = .int .i64 k) ∧ Hid (Bk wr X2.heap.size 46 #[.pointer none, .pointer none, .pointer (some ⟨X2.heap.size + 1 + 1, 0, none⟩)]) ∧ Hid (Bk wr (X2.heap.size + 1) 55 #[.bool false, .int .u64 0, .slice none 0 0, .bool false, .int .u64 0, .slice none 0 0, .bool true, .int .u64 limit, v2]) ∧ Hid (Bk wr (X2.heap.size + 1 + 1) 62 #[.int .u64 limit, v1]) ∧ Hid (wr.ownsRow (X2.heap.size + 1 + 1 + 1) 64 2 v1 k (pCells (prs (l.take k)))) ∧ Hid (wr.ownsRow (X2.heap.size + 1 + 1 + 1) 65 2 v2 k (pCells (prs (l.take k)))) ∧ Hid (Below w.heap.size w wr)) (fun i _ _ _ => n - (intOf i).toNat)
    case atStart => exact ⟨0, _, _, ⟨by omega, rfl⟩, J0, J1, J2, World.ownsRow_nil _ _ _ _, World.ownsRow_nil _ _ _ _, JB⟩
    case round =>
      obtain ⟨k, v1, v2, ⟨hk, rfl⟩, K0, K1, K2, O1, O2, HB⟩ := hrel
      obtain ⟨A1, c1, rfl, hc1, rd1⟩ := Rd.of_own_cap O1.out
      obtain ⟨A2, c2, rfl, hc2, rd2⟩ := Rd.of_own_cap O2.out
      have RD1 := Lib.hid rd1
      have RD2 := Lib.hid rd2
      clear rd1 rd2
      by_cases hlt : k < n
      · obtain ⟨x, hx⟩ : ∃ x, l[k]? = some x := ⟨_, List.getElem?_eq_getElem (by rw [HR.out.u64Len]; exact hlt)⟩
        obtain ⟨b, o, hA, hbB, hcell⟩ := (HR.out.below HB.out).at_ (by omega)
        subst hA
        have q0 : wr.cell? ⟨b, o + k, none⟩ = some (.int .u64 x) := hcell k _ (by rw [List.getElem?_map, hx]; rfl)
        have HTk : Hid (pCells (prs (l.take (k + 1))) = pCells (prs (l.take k)) ++ [.int .u64 x, .int .u64 (k : Int)]) := by show _ = _; rw [prs_snoc hx, pCells_app]; rfl
        clear hcell hx
        have k0 : wr.cell? ⟨X2.heap.size, 2, none⟩ = some (.pointer (some ⟨X2.heap.size + 1 + 1, 0, none⟩)) := (K0.out.cell 2).trans rfl
        have k2 : wr.cell? ⟨X2.heap.size + 1 + 1, 1, none⟩ = some (.slice A1 k c1) := (K2.out.cell 1).trans rfl
        have hgl := K2.out.lt
        have hg0 := K0.out.lt
        go_upto_region 19 with fail
        go_cut [] from 56 to 86 (fun wx => ∃ (A5 : Option Addr) (c5 : Nat), Hid (Bk wx X2.heap.size 46 #[.pointer none, .pointer none, .pointer (some ⟨X2.heap.size + 1 + 1, 0, none⟩)]) ∧ Hid (Bk wx (X2.heap.size + 1) 55 #[.bool false, .int .u64 0, .slice none 0 0, .bool false, .int .u64 0, .slice none 0 0, .bool true, .int .u64 limit, .slice A2 k c2]) ∧ Hid (Bk wx (X2.heap.size + 1 + 1) 62 #[.int .u64 limit, .slice A5 (k + 1) c5]) ∧ Hid (wx.ownsRow (X2.heap.size + 1 + 1 + 1) 64 2 (.slice A5 (k + 1) c5) (k + 1) (pCells (prs (l.take (k + 1))))) ∧ Hid (wx.ownsRow (X2.heap.size + 1 + 1 + 1) 65 2 (.slice A2 k c2) k (pCells (prs (l.take k)))) ∧ Hid (Below w.heap.size w wx))
        case first =>
          obtain ⟨Wa, hWa⟩ : ∃ Wa, (wr.alloc (.cells #[.int .u64 x, .int .u64 (k : Int)] 64)).drew = Wa := ⟨_, rfl⟩
          have OA : Hid (Wa.ownsRow (X2.heap.size + 1 + 1 + 1) 64 2 (.slice A1 k c1) k (pCells (prs (l.take k)))) := by rw [← hWa]; exact (O1.out.alloc _).drew
          have OA2 : Hid (Wa.ownsRow (X2.heap.size + 1 + 1 + 1) 65 2 (.slice A2 k c2) k (pCells (prs (l.take k)))) := by rw [← hWa]; exact (O2.out.alloc _).drew
          have RA : Hid (RdP Wa (wr.heap.size + 1) (some ⟨wr.heap.size, 0, none⟩) 1 [(x, (k : Int))]) := by rw [← hWa]; exact (Rd.newAt wr #[.int .u64 x, .int .u64 (k : Int)] 64 _ rfl (size := 2) (m := 1) rfl (by simp [maxLen])).drew
          have KA0 : Hid (Bk Wa X2.heap.size 46 #[.pointer none, .pointer none, .pointer (some ⟨X2.heap.size + 1 + 1, 0, none⟩)]) := by rw [← hWa]; exact (K0.out.alloc _).drew
          have KA1 : Hid (Bk Wa (X2.heap.size + 1) 55 #[.bool false, .int .u64 0, .slice none 0 0, .bool false, .int .u64 0, .slice none 0 0, .bool true, .int .u64 limit, .slice A2 k c2]) := by rw [← hWa]; exact (K1.out.alloc _).drew
          have KA2 : Hid (Bk Wa (X2.heap.size + 1 + 1) 62 #[.int .u64 limit, .slice A1 k c1]) := by rw [← hWa]; exact (K2.out.alloc _).drew
          have BA : Hid (Below w.heap.size w Wa) := by rw [← hWa]; exact (HB.out.alloc (by have := HB.out.size; omega) _).drew
          have zA : Hid (X2.heap.size + 1 + 1 + 1 ≤ Wa.heap.size) := KA2.out.lt
          have HWa := Lib.hid hWa
          clear hWa
          have h1 := pCells_one [(x, (k : Int))]
          have h63b : k + 1 ≤ maxLen := by simp only [maxLen]; omega
          have hb48 : (k + 1) * 16 ≤ 140737488355328 := by omega
          have hwk : IntKind.u64.wrap (k : Int) = (k : Int) := by rw [IntKind.wrap_u64]; omega
          go_region_law (
            rw [HWa.out]
            refine step_app _ (by rfl) (.tmp 66) (.tmp 71) 60 (by rfl) (X2.heap.size + 1 + 1 + 1) 64 i1 _ 2 16 Tryd.underlying60 hi1 hy0 hy1 hy2 rfl (by decide) (.slice A1 k c1) k _ (by rfl) OA.out (wr.heap.size + 1) (some ⟨wr.heap.size, 0, none⟩) 1 1 _ (by rfl) RA.out h1 h63b hb48 zA.out ?_
            intro v5 w5 hown5 hg5 _
            obtain ⟨A5, c5, hv5, _, _⟩ := Rd.of_own_cap hown5
            subst hv5
            have HO5 := Lib.hid hown5
            have L0 := Lib.hid (KA0.out.grown hg5 (fun e => by have := (OA.out.lt _ e).1; omega))
            have L1 := Lib.hid (KA1.out.grown hg5 (fun e => by have := (OA.out.lt _ e).1; omega))
            have L2 := Lib.hid (KA2.out.grown hg5 (fun e => by have := (OA.out.lt _ e).1; omega))
            have LO2 := Lib.hid (OA2.out.kept hg5 (own_ne OA2.out OA.out (by decide)))
            have LB := Lib.hid (below_own BA.out OA.out hg5 (Nat.le_trans hz2 (by omega)) BA.out.size)
            have r0 : w5.cell? ⟨X2.heap.size, 2, none⟩ = some (.pointer (some ⟨X2.heap.size + 1 + 1, 0, none⟩)) := (L0.out.cell 2).trans rfl
            have r2 : w5.cell? ⟨X2.heap.size + 1 + 1, 1, none⟩ = some (.slice A1 k c1) := (L2.out.cell 1).trans rfl
            have f2 := L2.out.frozen 1
            have hgl5 := L2.out.lt
            clear hown5 hg5)
          all_goals
            have MO1e : Hid (w5.ownsRow (X2.heap.size + 1 + 1 + 1) 64 2 (.slice A5 (k + 1) c5) (k + 1) (pCells (prs (l.take (k + 1))))) := by show World.ownsRow _ _ _ _ _ _ _; rw [HTk.out]; exact HO5.out
            go_wp2
            go_meet
            case rel =>
              exact ⟨A5, c5, L0.out.below ((Below.refl (X2.heap.size + 1 + 1) w5).setCell (p := ⟨X2.heap.size + 1 + 1, 1, none⟩) (Nat.le_refl _) _) (by omega), L1.out.below ((Below.refl (X2.heap.size + 1 + 1) w5).setCell (p := ⟨X2.heap.size + 1 + 1, 1, none⟩) (Nat.le_refl _) _) (by omega), L2.out.set_ 1 (.slice A5 (k + 1) c5), ownsRow_setCell_below MO1e.out (a := ⟨X2.heap.size + 1 + 1, 1, none⟩) (by simp) _, ownsRow_setCell_below LO2.out (a := ⟨X2.heap.size + 1 + 1, 1, none⟩) (by simp) _, LB.out.setCell (by show w.heap.size ≤ X2.heap.size + 1 + 1; omega) _⟩
        case rest =>
          clear k0 k2 hgl hg0
          obtain ⟨A5, c5, M0, M1, M2, MO1, MO2, MB⟩ := hcut
          obtain ⟨W6, rfl⟩ : ∃ W6, W6 = wc := ⟨_, rfl⟩
          have hg6 := M2.out.lt
          have m1 : W6.cell? ⟨X2.heap.size + 1, 8, none⟩ = some (.slice A2 k c2) := (M1.out.cell 8).trans rfl
          have zM := MB.out.size
          have h1 := pCells_one [(x, (k : Int))]
          have h63b : k + 1 ≤ maxLen := by simp only [maxLen]; omega
          have hb48 : (k + 1) * 16 ≤ 140737488355328 := by omega
          have hwk : IntKind.u64.wrap (k : Int) = (k : Int) := by rw [IntKind.wrap_u64]; omega
          have RM : Hid (RdP (W6.alloc (.cells #[.int .u64 x, .int .u64 (k : Int)] 65)) (W6.heap.size + 1) (some ⟨W6.heap.size, 0, none⟩) 1 [(x, (k : Int))]) := Rd.newAt W6 #[.int .u64 x, .int .u64 (k : Int)] 65 _ rfl (size := 2) (m := 1) rfl (by simp [maxLen])
          go_wp2_with (at_builtin; refine wpList_app _ (by rfl) (.tmp 77) (.tmp 82) 51 (by rfl) (X2.heap.size + 1 + 1 + 1) 65 i2 _ 2 16 Tryd.underlying51 hi2 hv0 hv1 hv2 rfl (by decide) (.slice A2 k c2) k (pCells (prs (l.take k))) (by rfl) (MO2.out.alloc _) (W6.heap.size + 1) (some ⟨W6.heap.size, 0, none⟩) 1 1 (pCells [(x, (k : Int))]) (by rfl) RM.out h1 h63b hb48 (by rw [World.size_alloc]; omega) ?_)
          intro v7 w7 hown7 hg7 _
          obtain ⟨A7, c7, hv7, _, _⟩ := Rd.of_own_cap hown7
          subst hv7
          have MO2a := Lib.hid (MO2.out.alloc (.cells #[.int .u64 x, .int .u64 (k : Int)] 65))
          have HO7 := Lib.hid hown7
          have N0 := Lib.hid ((M0.out.alloc (.cells #[.int .u64 x, .int .u64 (k : Int)] 65)).grown hg7 (fun e => by have := (MO2a.out.lt _ e).1; omega))
          have N1 := Lib.hid ((M1.out.alloc (.cells #[.int .u64 x, .int .u64 (k : Int)] 65)).grown hg7 (fun e => by have := (MO2a.out.lt _ e).1; omega))
          have N2 := Lib.hid ((M2.out.alloc (.cells #[.int .u64 x, .int .u64 (k : Int)] 65)).grown hg7 (fun e => by have := (MO2a.out.lt _ e).1; omega))
          have NO1 := Lib.hid ((MO1.out.alloc (.cells #[.int .u64 x, .int .u64 (k : Int)] 65)).kept hg7 (own_ne (MO1.out.alloc _) MO2a.out (by decide)))
          have NB := Lib.hid (below_own (MB.out.alloc zM (.cells #[.int .u64 x, .int .u64 (k : Int)] 65)) MO2a.out hg7 (by omega) (by rw [World.size_alloc]; omega))
          have n1 : w7.cell? ⟨X2.heap.size + 1, 8, none⟩ = some (.slice A2 k c2) := (N1.out.cell 8).trans rfl
          have f1 := N1.out.frozen 8
          have hg7' := N1.out.lt
          clear hown7 hg7 m1
          go_wp2
          obtain ⟨W8, hW8⟩ : ∃ W8, w7.setCell ⟨X2.heap.size + 1, 8, none⟩ (.slice A7 (k + 1) c7) = W8 := ⟨_, rfl⟩
          have Q0 : Hid (Bk W8 X2.heap.size 46 #[.pointer none, .pointer none, .pointer (some ⟨X2.heap.size + 1 + 1, 0, none⟩)]) := by rw [← hW8]; exact N0.out.below ((Below.refl (X2.heap.size + 1) w7).setCell (p := ⟨X2.heap.size + 1, 8, none⟩) (Nat.le_refl _) _) (by omega)
          have Q1 : Hid (Bk W8 (X2.heap.size + 1) 55 #[.bool false, .int .u64 0, .slice none 0 0, .bool false, .int .u64 0, .slice none 0 0, .bool true, .int .u64 limit, .slice A7 (k + 1) c7]) := by rw [← hW8]; exact N1.out.set_ 8 (.slice A7 (k + 1) c7)
          have Q2 : Hid (Bk W8 (X2.heap.size + 1 + 1) 62 #[.int .u64 limit, .slice A5 (k + 1) c5]) := by rw [← hW8]; exact N2.out.set_other (by simp)
          have QO1 : Hid (W8.ownsRow (X2.heap.size + 1 + 1 + 1) 64 2 (.slice A5 (k + 1) c5) (k + 1) (pCells (prs (l.take (k + 1))))) := by rw [← hW8, HTk.out]; exact ownsRow_setCell_below (by have h := NO1.out; rw [HTk.out] at h; exact h) (a := ⟨X2.heap.size + 1, 8, none⟩) (by simp) _
          have QO2 : Hid (W8.ownsRow (X2.heap.size + 1 + 1 + 1) 65 2 (.slice A7 (k + 1) c7) (k + 1) (pCells (prs (l.take (k + 1))))) := by rw [← hW8, HTk.out]; exact ownsRow_setCell_below HO7.out (a := ⟨X2.heap.size + 1, 8, none⟩) (by simp) _
          have QB : Hid (Below w.heap.size w W8) := by rw [← hW8]; exact NB.out.setCell (by show w.heap.size ≤ X2.heap.size + 1; omega) _
          rw [hW8]
          clear hW8 n1 f1 hwk hg7'
          go_roundw
          case rel => exact ⟨k + 1, _, _, ⟨by omega, by go_num⟩, Q0, Q1, Q2, QO1, QO2, QB⟩
          case measure => simp [intOf]; omega
      · obtain rfl : n = k := by omega
        have HLn := Lib.hid HR.out.u64Len
        have hTe : Hid (l.take n = l) := by show _ = _; exact List.take_of_length_le (by rw [HLn.out]; exact Nat.le_refl _)
        have hcut : Hid (ThingsCut root X2.heap.size w wr) := by
          have r1 := RD1.out
          have r2 := RD2.out
          rw [hTe.out] at r1 r2
          have hzr := HB.out.size
          have hl0 := K1.out.lt
          have hl2 := K2.out.lt
          refine ⟨_, _, _, _, _, _, _, _, _, _, _, _, str (thingP root [116, 97, 98, 108, 101] limit ((prs l).map pairB)), HB.out, hl0, hz2, K0.out, K1.out, ⟨rfl, rfl, rfl⟩, ⟨rfl, rfl, rfl, rfl, rfl, rfl, rfl, rfl, rfl⟩, fun wy hy => ?_, fun wy hy => ?_⟩
          · exact thing_table root limit (prs l) _ A1 n c1 wy (Nat.lt_of_lt_of_le hl2 hy.size) (((K2.out.below hy hl2).cell 0).trans rfl) (((K2.out.below hy hl2).cell 1).trans rfl) ((r1.below hy).more hy.size) HRt.out.1 HRt.out.2 HLm.out.1 HLm.out.2 (prs_ok HK.out (by rw [HLn.out]; omega)) (by omega) ((HT.out.below HB.out).below hy)
          · exact rthing_table root limit (prs l) A2 n c2 wy ((r2.below hy).more hy.size) HRt.out.1 HRt.out.2 HLm.out.1 HLm.out.2 (prs_ok HK.out (by rw [HLn.out]; omega)) (by omega)
        obtain ⟨X5, rfl⟩ : ∃ X5, X5 = wr := ⟨_, rfl⟩
        clear K0 K1 K2 O1 O2 RD1 RD2 HB
        go_wp2
        obtain ⟨p0, p1, p2, q0, q1, q2, q3, q4, q5, q6, q7, q8, V, hbw, hlt, hge, hb0, hb1, ⟨o0, o1, o2⟩, ⟨r0, r1, r2, r3, r4, r5, r6, r7, r8⟩, hT, hU⟩ := hcut.out
        have HTg := Lib.hid hT
        have HUg := Lib.hid hU
        have HBw := Lib.hid hbw
        have BK0 := Lib.hid hb0
        have BK1 := Lib.hid hb1
        have Hz := Lib.hid hz2
        clear hcut hT hU hbw hb0 hb1 hz2 HB2 HT HR HK HRt HKd HLm
        have HBd := Lib.hid ((Below.refl X5.heap.size X5).drew)
        have hzd : X5.heap.size ≤ X5.drew.heap.size := Nat.le_refl _
        have BK0d : Hid (Bk X5.drew X2.heap.size 46 #[p0, p1, p2]) := BK0.out.drew
        have BK1d : Hid (Bk X5.drew (X2.heap.size + 1) 55 #[q0, q1, q2, q3, q4, q5, q6, q7, q8]) := BK1.out.drew
        have dp0 : X5.cell? ⟨X2.heap.size, 0, none⟩ = some p0 := (BK0.out.cell 0).trans rfl
        have dp1 : X5.cell? ⟨X2.heap.size, 1, none⟩ = some p1 := (BK0.out.cell 1).trans rfl
        have dp2 : X5.cell? ⟨X2.heap.size, 2, none⟩ = some p2 := (BK0.out.cell 2).trans rfl
        have dq0 : X5.cell? ⟨X2.heap.size + 1, 0, none⟩ = some q0 := (BK1.out.cell 0).trans rfl
        have dq1 : X5.cell? ⟨X2.heap.size + 1, 1, none⟩ = some q1 := (BK1.out.cell 1).trans rfl
        have dq2 : X5.cell? ⟨X2.heap.size + 1, 2, none⟩ = some q2 := (BK1.out.cell 2).trans rfl
        have dq3 : X5.cell? ⟨X2.heap.size + 1, 3, none⟩ = some q3 := (BK1.out.cell 3).trans rfl
        have dq4 : X5.cell? ⟨X2.heap.size + 1, 4, none⟩ = some q4 := (BK1.out.cell 4).trans rfl
        have dq5 : X5.cell? ⟨X2.heap.size + 1, 5, none⟩ = some q5 := (BK1.out.cell 5).trans rfl
        have dq6 : X5.cell? ⟨X2.heap.size + 1, 6, none⟩ = some q6 := (BK1.out.cell 6).trans rfl
        have dq7 : X5.cell? ⟨X2.heap.size + 1, 7, none⟩ = some q7 := (BK1.out.cell 7).trans rfl
        have dq8 : X5.cell? ⟨X2.heap.size + 1, 8, none⟩ = some q8 := (BK1.out.cell 8).trans rfl
        have ep0 : X5.drew.cell? ⟨X2.heap.size, 0, none⟩ = some p0 := (BK0d.out.cell 0).trans rfl
        have ep1 : X5.drew.cell? ⟨X2.heap.size, 1, none⟩ = some p1 := (BK0d.out.cell 1).trans rfl
        have ep2 : X5.drew.cell? ⟨X2.heap.size, 2, none⟩ = some p2 := (BK0d.out.cell 2).trans rfl
        have eq0 : X5.drew.cell? ⟨X2.heap.size + 1, 0, none⟩ = some q0 := (BK1d.out.cell 0).trans rfl
        have eq1 : X5.drew.cell? ⟨X2.heap.size + 1, 1, none⟩ = some q1 := (BK1d.out.cell 1).trans rfl
        have eq2 : X5.drew.cell? ⟨X2.heap.size + 1, 2, none⟩ = some q2 := (BK1d.out.cell 2).trans rfl
        have eq3 : X5.drew.cell? ⟨X2.heap.size + 1, 3, none⟩ = some q3 := (BK1d.out.cell 3).trans rfl
        have eq4 : X5.drew.cell? ⟨X2.heap.size + 1, 4, none⟩ = some q4 := (BK1d.out.cell 4).trans rfl
        have eq5 : X5.drew.cell? ⟨X2.heap.size + 1, 5, none⟩ = some q5 := (BK1d.out.cell 5).trans rfl
        have eq6 : X5.drew.cell? ⟨X2.heap.size + 1, 6, none⟩ = some q6 := (BK1d.out.cell 6).trans rfl
        have eq7 : X5.drew.cell? ⟨X2.heap.size + 1, 7, none⟩ = some q7 := (BK1d.out.cell 7).trans rfl
        have eq8 : X5.drew.cell? ⟨X2.heap.size + 1, 8, none⟩ = some q8 := (BK1d.out.cell 8).trans rfl
        go_region_held3 (fun w' => w'.cell? ⟨X2.heap.size, 0, none⟩ = some p0 ∧ w'.cell? ⟨X2.heap.size, 1, none⟩ = some p1 ∧ w'.cell? ⟨X2.heap.size, 2, none⟩ = some p2 ∧ w'.cell? ⟨X2.heap.size + 1, 0, none⟩ = some q0 ∧ w'.cell? ⟨X2.heap.size + 1, 1, none⟩ = some q1 ∧ w'.cell? ⟨X2.heap.size + 1, 2, none⟩ = some q2 ∧ w'.cell? ⟨X2.heap.size + 1, 3, none⟩ = some q3 ∧ w'.cell? ⟨X2.heap.size + 1, 4, none⟩ = some q4 ∧ w'.cell? ⟨X2.heap.size + 1, 5, none⟩ = some q5 ∧ w'.cell? ⟨X2.heap.size + 1, 6, none⟩ = some q6 ∧ w'.cell? ⟨X2.heap.size + 1, 7, none⟩ = some q7 ∧ w'.cell? ⟨X2.heap.size + 1, 8, none⟩ = some q8)
          (first | exact ⟨ep0, ep1, ep2, eq0, eq1, eq2, eq3, eq4, eq5, eq6, eq7, eq8⟩ | exact ⟨dp0, dp1, dp2, dq0, dq1, dq2, dq3, dq4, dq5, dq6, dq7, dq8⟩ | go_keep)
          (first
            | (go_at_call 13
               refine (HTg.out _ HBd.out).mono ?_
               rintro e wn ⟨rfl, hbn⟩
               have BK0d := Lib.hid (BK0d.out.below hbn BK0d.out.lt)
               have BK1d := Lib.hid (BK1d.out.below hbn BK1d.out.lt)
               have HBd := Lib.hid (HBd.out.trans (hbn.mono hzd))
               have hzd := HBd.out.size
               have ep0 : wn.cell? ⟨X2.heap.size, 0, none⟩ = some p0 := (BK0d.out.cell 0).trans rfl
               have ep1 : wn.cell? ⟨X2.heap.size, 1, none⟩ = some p1 := (BK0d.out.cell 1).trans rfl
               have ep2 : wn.cell? ⟨X2.heap.size, 2, none⟩ = some p2 := (BK0d.out.cell 2).trans rfl
               have eq0 : wn.cell? ⟨X2.heap.size + 1, 0, none⟩ = some q0 := (BK1d.out.cell 0).trans rfl
               have eq1 : wn.cell? ⟨X2.heap.size + 1, 1, none⟩ = some q1 := (BK1d.out.cell 1).trans rfl
               have eq2 : wn.cell? ⟨X2.heap.size + 1, 2, none⟩ = some q2 := (BK1d.out.cell 2).trans rfl
               have eq3 : wn.cell? ⟨X2.heap.size + 1, 3, none⟩ = some q3 := (BK1d.out.cell 3).trans rfl
               have eq4 : wn.cell? ⟨X2.heap.size + 1, 4, none⟩ = some q4 := (BK1d.out.cell 4).trans rfl
               have eq5 : wn.cell? ⟨X2.heap.size + 1, 5, none⟩ = some q5 := (BK1d.out.cell 5).trans rfl
               have eq6 : wn.cell? ⟨X2.heap.size + 1, 6, none⟩ = some q6 := (BK1d.out.cell 6).trans rfl
               have eq7 : wn.cell? ⟨X2.heap.size + 1, 7, none⟩ = some q7 := (BK1d.out.cell 7).trans rfl
               have eq8 : wn.cell? ⟨X2.heap.size + 1, 8, none⟩ = some q8 := (BK1d.out.cell 8).trans rfl
               clear hbn)
            | (go_at_call 14
               refine (HUg.out _ HBd.out).mono ?_
               rintro e wn ⟨rfl, hbn⟩
               have BK0d := Lib.hid (BK0d.out.below hbn BK0d.out.lt)
               have BK1d := Lib.hid (BK1d.out.below hbn BK1d.out.lt)
               have HBd := Lib.hid (HBd.out.trans (hbn.mono hzd))
               have hzd := HBd.out.size
               have ep0 : wn.cell? ⟨X2.heap.size, 0, none⟩ = some p0 := (BK0d.out.cell 0).trans rfl
               have ep1 : wn.cell? ⟨X2.heap.size, 1, none⟩ = some p1 := (BK0d.out.cell 1).trans rfl
               have ep2 : wn.cell? ⟨X2.heap.size, 2, none⟩ = some p2 := (BK0d.out.cell 2).trans rfl
               have eq0 : wn.cell? ⟨X2.heap.size + 1, 0, none⟩ = some q0 := (BK1d.out.cell 0).trans rfl
               have eq1 : wn.cell? ⟨X2.heap.size + 1, 1, none⟩ = some q1 := (BK1d.out.cell 1).trans rfl
               have eq2 : wn.cell? ⟨X2.heap.size + 1, 2, none⟩ = some q2 := (BK1d.out.cell 2).trans rfl
               have eq3 : wn.cell? ⟨X2.heap.size + 1, 3, none⟩ = some q3 := (BK1d.out.cell 3).trans rfl
               have eq4 : wn.cell? ⟨X2.heap.size + 1, 4, none⟩ = some q4 := (BK1d.out.cell 4).trans rfl
               have eq5 : wn.cell? ⟨X2.heap.size + 1, 5, none⟩ = some q5 := (BK1d.out.cell 5).trans rfl
               have eq6 : wn.cell? ⟨X2.heap.size + 1, 6, none⟩ = some q6 := (BK1d.out.cell 6).trans rfl
               have eq7 : wn.cell? ⟨X2.heap.size + 1, 7, none⟩ = some q7 := (BK1d.out.cell 7).trans rfl
               have eq8 : wn.cell? ⟨X2.heap.size + 1, 8, none⟩ = some q8 := (BK1d.out.cell 8).trans rfl
               clear hbn))
        all_goals
          have HBe := Lib.hid (HBw.out.trans (HBd.out.mono HBw.out.size))
          go_wp2
          go_ret
          exact ⟨ret_bool (by simp), HBe.out⟩
  · go_wp2
    obtain ⟨X5, hX5⟩ : ∃ X5, (X2.alloc (.cells #[.pointer none, .pointer none, .pointer none] 46)).alloc (.cells #[.bool false, .int .u64 0, .slice none 0 0, .bool false, .int .u64 0, .slice none 0 0, .bool false, .int .u64 0, .slice none 0 0] 55) = X5 := ⟨_, rfl⟩
    obtain ⟨b0, b1, b3, b4⟩ := two_blocks X2 #[.pointer none, .pointer none, .pointer none] #[.bool false, .int .u64 0, .slice none 0 0, .bool false, .int .u64 0, .slice none 0 0, .bool false, .int .u64 0, .slice none 0 0] 46 55
    rw [hX5] at b0 b1 b3 b4
    have hcut : Hid (ThingsCut root X2.heap.size w X5) := by
      have hB5 := HB2.out.trans (b3.mono hz2)
      exact ⟨_, _, _, _, _, _, _, _, _, _, _, _, ⟨#[]⟩, hB5, b4, hz2, b0, b1, ⟨rfl, rfl, rfl⟩, ⟨rfl, rfl, rfl, rfl, rfl, rfl, rfl, rfl, rfl⟩, fun wy hy => thing_none root wy, fun wy hy => rthing_none root wy HRt.out.1 HRt.out.2⟩
    rw [hX5]
    clear hX5 b0 b1 b3 b4
    obtain ⟨p0, p1, p2, q0, q1, q2, q3, q4, q5, q6, q7, q8, V, hbw, hlt, hge, hb0, hb1, ⟨o0, o1, o2⟩, ⟨r0, r1, r2, r3, r4, r5, r6, r7, r8⟩, hT, hU⟩ := hcut.out
    have HTg := Lib.hid hT
    have HUg := Lib.hid hU
    have HBw := Lib.hid hbw
    have BK0 := Lib.hid hb0
    have BK1 := Lib.hid hb1
    have Hz := Lib.hid hz2
    clear hcut hT hU hbw hb0 hb1 hz2 HB2 HT HR HK HRt HKd HLm
    have HBd := Lib.hid ((Below.refl X5.heap.size X5).drew)
    have hzd : X5.heap.size ≤ X5.drew.heap.size := Nat.le_refl _
    have BK0d : Hid (Bk X5.drew X2.heap.size 46 #[p0, p1, p2]) := BK0.out.drew
    have BK1d : Hid (Bk X5.drew (X2.heap.size + 1) 55 #[q0, q1, q2, q3, q4, q5, q6, q7, q8]) := BK1.out.drew
    have dp0 : X5.cell? ⟨X2.heap.size, 0, none⟩ = some p0 := (BK0.out.cell 0).trans rfl
    have dp1 : X5.cell? ⟨X2.heap.size, 1, none⟩ = some p1 := (BK0.out.cell 1).trans rfl
    have dp2 : X5.cell? ⟨X2.heap.size, 2, none⟩ = some p2 := (BK0.out.cell 2).trans rfl
    have dq0 : X5.cell? ⟨X2.heap.size + 1, 0, none⟩ = some q0 := (BK1.out.cell 0).trans rfl
    have dq1 : X5.cell? ⟨X2.heap.size + 1, 1, none⟩ = some q1 := (BK1.out.cell 1).trans rfl
    have dq2 : X5.cell? ⟨X2.heap.size + 1, 2, none⟩ = some q2 := (BK1.out.cell 2).trans rfl
    have dq3 : X5.cell? ⟨X2.heap.size + 1, 3, none⟩ = some q3 := (BK1.out.cell 3).trans rfl
    have dq4 : X5.cell? ⟨X2.heap.size + 1, 4, none⟩ = some q4 := (BK1.out.cell 4).trans rfl
    have dq5 : X5.cell? ⟨X2.heap.size + 1, 5, none⟩ = some q5 := (BK1.out.cell 5).trans rfl
    have dq6 : X5.cell? ⟨X2.heap.size + 1, 6, none⟩ = some q6 := (BK1.out.cell 6).trans rfl
    have dq7 : X5.cell? ⟨X2.heap.size + 1, 7, none⟩ = some q7 := (BK1.out.cell 7).trans rfl
    have dq8 : X5.cell? ⟨X2.heap.size + 1, 8, none⟩ = some q8 := (BK1.out.cell 8).trans rfl
    have ep0 : X5.drew.cell? ⟨X2.heap.size, 0, none⟩ = some p0 := (BK0d.out.cell 0).trans rfl
    have ep1 : X5.drew.cell? ⟨X2.heap.size, 1, none⟩ = some p1 := (BK0d.out.cell 1).trans rfl
    have ep2 : X5.drew.cell? ⟨X2.heap.size, 2, none⟩ = some p2 := (BK0d.out.cell 2).trans rfl
    have eq0 : X5.drew.cell? ⟨X2.heap.size + 1, 0, none⟩ = some q0 := (BK1d.out.cell 0).trans rfl
    have eq1 : X5.drew.cell? ⟨X2.heap.size + 1, 1, none⟩ = some q1 := (BK1d.out.cell 1).trans rfl
    have eq2 : X5.drew.cell? ⟨X2.heap.size + 1, 2, none⟩ = some q2 := (BK1d.out.cell 2).trans rfl
    have eq3 : X5.drew.cell? ⟨X2.heap.size + 1, 3, none⟩ = some q3 := (BK1d.out.cell 3).trans rfl
    have eq4 : X5.drew.cell? ⟨X2.heap.size + 1, 4, none⟩ = some q4 := (BK1d.out.cell 4).trans rfl
    have eq5 : X5.drew.cell? ⟨X2.heap.size + 1, 5, none⟩ = some q5 := (BK1d.out.cell 5).trans rfl
    have eq6 : X5.drew.cell? ⟨X2.heap.size + 1, 6, none⟩ = some q6 := (BK1d.out.cell 6).trans rfl
    have eq7 : X5.drew.cell? ⟨X2.heap.size + 1, 7, none⟩ = some q7 := (BK1d.out.cell 7).trans rfl
    have eq8 : X5.drew.cell? ⟨X2.heap.size + 1, 8, none⟩ = some q8 := (BK1d.out.cell 8).trans rfl
    go_region_held3 (fun w' => w'.cell? ⟨X2.heap.size, 0, none⟩ = some p0 ∧ w'.cell? ⟨X2.heap.size, 1, none⟩ = some p1 ∧ w'.cell? ⟨X2.heap.size, 2, none⟩ = some p2 ∧ w'.cell? ⟨X2.heap.size + 1, 0, none⟩ = some q0 ∧ w'.cell? ⟨X2.heap.size + 1, 1, none⟩ = some q1 ∧ w'.cell? ⟨X2.heap.size + 1, 2, none⟩ = some q2 ∧ w'.cell? ⟨X2.heap.size + 1, 3, none⟩ = some q3 ∧ w'.cell? ⟨X2.heap.size + 1, 4, none⟩ = some q4 ∧ w'.cell? ⟨X2.heap.size + 1, 5, none⟩ = some q5 ∧ w'.cell? ⟨X2.heap.size + 1, 6, none⟩ = some q6 ∧ w'.cell? ⟨X2.heap.size + 1, 7, none⟩ = some q7 ∧ w'.cell? ⟨X2.heap.size + 1, 8, none⟩ = some q8)
      (first | exact ⟨ep0, ep1, ep2, eq0, eq1, eq2, eq3, eq4, eq5, eq6, eq7, eq8⟩ | exact ⟨dp0, dp1, dp2, dq0, dq1, dq2, dq3, dq4, dq5, dq6, dq7, dq8⟩ | go_keep)
      (first
        | (go_at_call 13
           refine (HTg.out _ HBd.out).mono ?_
           rintro e wn ⟨rfl, hbn⟩
           have BK0d := Lib.hid (BK0d.out.below hbn BK0d.out.lt)
           have BK1d := Lib.hid (BK1d.out.below hbn BK1d.out.lt)
           have HBd := Lib.hid (HBd.out.trans (hbn.mono hzd))
           have hzd := HBd.out.size
           have ep0 : wn.cell? ⟨X2.heap.size, 0, none⟩ = some p0 := (BK0d.out.cell 0).trans rfl
           have ep1 : wn.cell? ⟨X2.heap.size, 1, none⟩ = some p1 := (BK0d.out.cell 1).trans rfl
           have ep2 : wn.cell? ⟨X2.heap.size, 2, none⟩ = some p2 := (BK0d.out.cell 2).trans rfl
           have eq0 : wn.cell? ⟨X2.heap.size + 1, 0, none⟩ = some q0 := (BK1d.out.cell 0).trans rfl
           have eq1 : wn.cell? ⟨X2.heap.size + 1, 1, none⟩ = some q1 := (BK1d.out.cell 1).trans rfl
           have eq2 : wn.cell? ⟨X2.heap.size + 1, 2, none⟩ = some q2 := (BK1d.out.cell 2).trans rfl
           have eq3 : wn.cell? ⟨X2.heap.size + 1, 3, none⟩ = some q3 := (BK1d.out.cell 3).trans rfl
           have eq4 : wn.cell? ⟨X2.heap.size + 1, 4, none⟩ = some q4 := (BK1d.out.cell 4).trans rfl
           have eq5 : wn.cell? ⟨X2.heap.size + 1, 5, none⟩ = some q5 := (BK1d.out.cell 5).trans rfl
           have eq6 : wn.cell? ⟨X2.heap.size + 1, 6, none⟩ = some q6 := (BK1d.out.cell 6).trans rfl
           have eq7 : wn.cell? ⟨X2.heap.size + 1, 7, none⟩ = some q7 := (BK1d.out.cell 7).trans rfl
           have eq8 : wn.cell? ⟨X2.heap.size + 1, 8, none⟩ = some q8 := (BK1d.out.cell 8).trans rfl
           clear hbn)
        | (go_at_call 14
           refine (HUg.out _ HBd.out).mono ?_
           rintro e wn ⟨rfl, hbn⟩
           have BK0d := Lib.hid (BK0d.out.below hbn BK0d.out.lt)
           have BK1d := Lib.hid (BK1d.out.below hbn BK1d.out.lt)
           have HBd := Lib.hid (HBd.out.trans (hbn.mono hzd))
           have hzd := HBd.out.size
           have ep0 : wn.cell? ⟨X2.heap.size, 0, none⟩ = some p0 := (BK0d.out.cell 0).trans rfl
           have ep1 : wn.cell? ⟨X2.heap.size, 1, none⟩ = some p1 := (BK0d.out.cell 1).trans rfl
           have ep2 : wn.cell? ⟨X2.heap.size, 2, none⟩ = some p2 := (BK0d.out.cell 2).trans rfl
           have eq0 : wn.cell? ⟨X2.heap.size + 1, 0, none⟩ = some q0 := (BK1d.out.cell 0).trans rfl
           have eq1 : wn.cell? ⟨X2.heap.size + 1, 1, none⟩ = some q1 := (BK1d.out.cell 1).trans rfl
           have eq2 : wn.cell? ⟨X2.heap.size + 1, 2, none⟩ = some q2 := (BK1d.out.cell 2).trans rfl
           have eq3 : wn.cell? ⟨X2.heap.size + 1, 3, none⟩ = some q3 := (BK1d.out.cell 3).trans rfl
           have eq4 : wn.cell? ⟨X2.heap.size + 1, 4, none⟩ = some q4 := (BK1d.out.cell 4).trans rfl
           have eq5 : wn.cell? ⟨X2.heap.size + 1, 5, none⟩ = some q5 := (BK1d.out.cell 5).trans rfl
           have eq6 : wn.cell? ⟨X2.heap.size + 1, 6, none⟩ = some q6 := (BK1d.out.cell 6).trans rfl
           have eq7 : wn.cell? ⟨X2.heap.size + 1, 7, none⟩ = some q7 := (BK1d.out.cell 7).trans rfl
           have eq8 : wn.cell? ⟨X2.heap.size + 1, 8, none⟩ = some q8 := (BK1d.out.cell 8).trans rfl
           clear hbn))
    all_goals
      have HBe := Lib.hid (HBw.out.trans (HBd.out.mono HBw.out.size))
      go_wp2
      go_ret
      exact ⟨ret_bool (by simp), HBe.out⟩
end Go.Proofs.YthklmcpjlpaklaaDoor
