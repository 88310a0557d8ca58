/-
  Chapter 25: the law ReportLines: the walk. Printed by gen/lawr3.py.
-/
import Derived.Test.YthklmcpjlpaklaaDoorRepV
import Derived.Test.YthklmcpjlpaklaaDoorRepK
namespace Go.Proofs.YthklmcpjlpaklaaDoor
open Go.RowKit
set_option linter.unusedVariables false

theorem rec_size (r : Rec) (ho : r.Ok) : (str (recordP (objNames.map str) r)).size ≤ 65536 := by
  have hsz : ∀ x ∈ objNames.map str, x.size ≤ 1000 := by
    intro x hx
    obtain ⟨y, hy, rfl⟩ := List.mem_map.1 hx
    have h := good_W (objNames_good y hy)
    rcases h.1 with h | h | h | h
    · have := h.2.2.2.1
      simp [tW] at this
      rw [str_size]; omega
    · have := h.1; simp [tW] at this
    · have := h.1; simp [tW] at this
    · have := h.1; simp [tW] at this
  have h := parts_len (objNames.map str) r ho hsz
  rw [str_size, recordP, lineP, List.length_append]
  simp; omega
theorem things_size (root cap : Int) (word : Bys) (l : List Int) (h0 : -9223372036854775808 ≤ root) (h1 : root ≤ 9223372036854775807) (hc : cap ≤ 18446744073709551615) (hw : word.length ≤ 21) (hl : l.length ≤ 30) (hx : ∀ x ∈ l, x ≤ 18446744073709551615) :
    (str (thingP root word cap (l.map dec))).size ≤ 65536 := by
  rw [str_size, thingP, lineP, List.length_append, Lib.join_cons]
  have h2 := itoa_len root h0 h1
  have h3 := joinTail_len 21 (word :: dec cap :: [58] :: l.map dec) (fun x hx2 => by
    rcases List.mem_cons.1 hx2 with rfl | hx2
    · exact hw
    · rcases List.mem_cons.1 hx2 with rfl | hx2
      · have := dec_len cap hc; omega
      · rcases List.mem_cons.1 hx2 with rfl | hx2
        · simp
        · obtain ⟨u, hu, rfl⟩ := List.mem_map.1 hx2
          have := dec_len u (hx u hu); omega)
  simp only [List.length_cons, List.length_map] at h3
  rw [List.length_append]
  simp; omega
theorem lens_of (r : Rec) (ho : r.Ok) : ∀ x ∈ objNames.map str, x.size ≤ 1000 := by
  intro x hx
  obtain ⟨y, hy, rfl⟩ := List.mem_map.1 hx
  have h := good_W (objNames_good y hy)
  rcases h.1 with h | h | h | h
  · have := h.2.2.2.1
    simp [tW] at this
    rw [str_size]; omega
  · have := h.1; simp [tW] at this
  · have := h.1; simp [tW] at this
  · have := h.1; simp [tW] at this

theorem Bk.step {w w' : World} {g : Nat} {t : TypeId} {cs : Array Value} (h : Bk w g t cs) (hb : Below w.heap.size w w') : Bk w' g t cs := h.below hb h.lt
theorem Bk.newAt (w : World) (t : TypeId) (cs : Array Value) (g : Nat) (hg : g = w.heap.size) : Bk (w.alloc (.cells cs t)) g t cs := by subst hg; exact Bk.new w t cs
theorem thing_queueK (root cap : Int) (l : List Int) (b : Nat) (A : Option Addr) (n c : Nat) (w : World) (hk : Bk w b 57 #[.int .u64 cap, .slice A n c]) (hr : RdU w w.heap.size A n l)
    (hr0 : -9223372036854775808 ≤ root) (hr1 : root ≤ 9223372036854775807) (hc0 : 0 ≤ cap) (hc1 : cap ≤ 18446744073709551615) (hok : ∀ x ∈ l, 0 ≤ x ∧ x ≤ 18446744073709551615) (h48 : n ≤ 1000) (htab : PowTab w) :
    Calls Tryd.prog 13 #[.int .i64 root, .agg #[.pointer (some ⟨b, 0, none⟩), .pointer none, .pointer none]] w fun e w' => e = .returned (.string (str (thingP root #[113, 117, 101, 117, 101].toList cap (l.map dec)))) ∧ Below w.heap.size w w' :=
  thing_queue root cap l b A n c w hk.lt ((hk.cell 0).trans rfl) ((hk.cell 1).trans rfl) hr hr0 hr1 hc0 hc1 hok h48 htab
theorem thing_chainK (root cap : Int) (l : List Int) (b : Nat) (A : Option Addr) (n c : Nat) (w : World) (hk : Bk w b 59 #[.int .u64 cap, .slice A n c]) (hr : RdU w w.heap.size A n l)
    (hr0 : -9223372036854775808 ≤ root) (hr1 : root ≤ 9223372036854775807) (hc0 : 0 ≤ cap) (hc1 : cap ≤ 18446744073709551615) (hok : ∀ x ∈ l, 0 ≤ x ∧ x ≤ 18446744073709551615) (h48 : n ≤ 1000) (htab : PowTab w) :
    Calls Tryd.prog 13 #[.int .i64 root, .agg #[.pointer none, .pointer (some ⟨b, 0, none⟩), .pointer none]] w fun e w' => e = .returned (.string (str (thingP root #[99, 104, 97, 105, 110].toList cap (l.map dec)))) ∧ Below w.heap.size w w' :=
  thing_chain root cap l b A n c w hk.lt ((hk.cell 0).trans rfl) ((hk.cell 1).trans rfl) hr hr0 hr1 hc0 hc1 hok h48 htab
/-- The three lines. -/
def ThreeLines (r : Rec) (limit : Int) (l : List Int) (w wx : World) (v : Value) : Prop :=
  ∃ g, v = .slice (some ⟨g, 0, none⟩) 3 3 ∧ g < wx.heap.size ∧ Below w.heap.size w wx ∧ w.heap.size ≤ g ∧
    Bk wx g 9 #[.string (str (recordP (objNames.map str) r)), .string (str (thingP 3 [113, 117, 101, 117, 101] limit (l.map dec))), .string (str (thingP 3 [99, 104, 97, 105, 110] limit (l.map dec)))]

set_option maxRecDepth 100000 in
set_option maxHeartbeats 16000000 in
theorem lines_walk (r : Rec) (limit : Int) (l : List Int) (A : Option Addr) (n c : Nat) (w : World) (htab : PowTab w) (hok : r.Ok) (hlim : 0 ≤ limit ∧ limit ≤ 18446744073709551615) (hr : RdU w w.heap.size A n l) (hl : ∀ x ∈ l, 0 ≤ x ∧ x ≤ 18446744073709551615) (hc : n ≤ c) :
    Calls Tryd.prog 5 #[r.v, .int .u64 limit, .slice A n c] w fun e w' => e = .returned (.bool true) ∧ Below w.heap.size w w' := by
  have HT := Lib.hid htab
  have HR := Lib.hid hr
  have HLl := Lib.hid hr.u64Len
  have HK := Lib.hid hok
  have HL := Lib.hid hl
  have HLm := Lib.hid hlim
  have hle := hr.le
  clear htab hr hok hc hl hlim
  simp only [Rec.v]
  go_enter Tryd.func5, Tryd.ntmps5
  go_wp2_with fail
  obtain ⟨X1, hX1⟩ : ∃ X1, w.alloc (.cells #[.int .i64 r.who, .int .i64 r.tag, .int .i64 r.prog, .int .u64 r.a0, .int .u64 r.a1, .int .u64 r.a2, .int .u64 r.a3, .int .i64 r.from_, .int .i64 r.till, .int .i64 r.steps, .bool r.done, .int .i64 r.code, .int .u64 r.val] 31) = X1 := ⟨_, rfl⟩
  have HBK : Hid (Bk X1 w.heap.size 31 #[.int .i64 r.who, .int .i64 r.tag, .int .i64 r.prog, .int .u64 r.a0, .int .u64 r.a1, .int .u64 r.a2, .int .u64 r.a3, .int .i64 r.from_, .int .i64 r.till, .int .i64 r.steps, .bool r.done, .int .i64 r.code, .int .u64 r.val]) := by rw [← hX1]; exact Bk.new w _ _
  have HB1 : Hid (Below w.heap.size w X1) := by rw [← hX1]; exact (Below.refl _ _).alloc (Nat.le_refl _) _
  rw [hX1]
  clear hX1
  refine (alive_any _ (HT.out.below HB1.out)).mono ?_
  rintro e X ⟨rfl, hb2⟩
  have BK := Lib.hid (HBK.out.below hb2 HBK.out.lt)
  have HB2 := Lib.hid (HB1.out.trans (hb2.mono HB1.out.size))
  clear hb2 HBK HB1
  have hz2 := HB2.out.size
  have hltX := BK.out.lt
  have d0 : X.cell? ⟨w.heap.size, 0, none⟩ = some (.int .i64 r.who) := (BK.out.cell 0).trans rfl
  have d1 : X.cell? ⟨w.heap.size, 1, none⟩ = some (.int .i64 r.tag) := (BK.out.cell 1).trans rfl
  have d2 : X.cell? ⟨w.heap.size, 2, none⟩ = some (.int .i64 r.prog) := (BK.out.cell 2).trans rfl
  have d7 : X.cell? ⟨w.heap.size, 7, none⟩ = some (.int .i64 r.from_) := (BK.out.cell 7).trans rfl
  have d8 : X.cell? ⟨w.heap.size, 8, none⟩ = some (.int .i64 r.till) := (BK.out.cell 8).trans rfl
  have d9 : X.cell? ⟨w.heap.size, 9, none⟩ = some (.int .i64 r.steps) := (BK.out.cell 9).trans rfl
  have d11 : X.cell? ⟨w.heap.size, 11, none⟩ = some (.int .i64 r.code) := (BK.out.cell 11).trans rfl
  by_cases h30 : 30 < n
  · go_wp2
    go_ret
    exact ⟨rfl, HB2.out⟩
  by_cases h1 : r.tag < 0
  · go_wp2
    go_ret
    exact ⟨rfl, HB2.out⟩
  by_cases h2 : r.from_ < 0
  · go_wp2
    go_ret
    exact ⟨rfl, HB2.out⟩
  by_cases h3 : r.till < 0
  · go_wp2
    go_ret
    exact ⟨rfl, HB2.out⟩
  by_cases h4 : r.steps < 0
  · go_wp2
    go_ret
    exact ⟨rfl, HB2.out⟩
  by_cases h5 : r.code < 0
  · go_wp2
    go_ret
    exact ⟨rfl, HB2.out⟩
  by_cases h6 : r.prog < 0
  · go_wp2
    go_ret
    exact ⟨rfl, HB2.out⟩
  by_cases h7 : 18 < r.prog
  · go_wp2
    go_ret
    exact ⟨rfl, HB2.out⟩
  by_cases h8 : r.who < 0
  · go_wp2
    go_ret
    exact ⟨rfl, HB2.out⟩
  by_cases h9 : 7 < r.who
  · go_wp2
    go_ret
    exact ⟨rfl, HB2.out⟩
  have HPl : Hid (r.Plain) := ⟨by omega, by omega, by omega, by omega, by omega, by omega, by omega⟩
  go_upto_region 5 with fail
  clear d0 d1 d2 d7 d8 d9 d11
  clear h1 h2 h3 h4 h5 h6 h7 h8 h9
  go_cut [7] from 68 to 83 (fun v wx => Hid (ThreeLines r limit l w wx v))
  case first =>
    obtain ⟨R0, hR0⟩ : ∃ V, str (recordP (objNames.map str) r) = V := ⟨_, rfl⟩
    obtain ⟨R1, hR1⟩ : ∃ V, str (thingP 3 #[113, 117, 101, 117, 101].toList limit (l.map dec)) = V := ⟨_, rfl⟩
    obtain ⟨R2, hR2⟩ : ∃ V, str (thingP 3 #[99, 104, 97, 105, 110].toList limit (l.map dec)) = V := ⟨_, rfl⟩
    have HR0 := Lib.hid hR0
    have HR1 := Lib.hid hR1
    have HR2 := Lib.hid hR2
    clear hR0 hR1 hR2
    have HTX : Hid (PowTab X) := HT.out.below HB2.out
    have HRX : Hid (RdU X X.heap.size A n l) := (HR.out.below HB2.out).more HB2.out.size
    have HBd : Hid (Below X.heap.size X X.drew) := (Below.refl _ _).drew
    have hzd : X.heap.size ≤ X.drew.heap.size := Nat.le_refl _
    have BKd := Lib.hid (BK.out.below HBd.out hltX)
    have d0 : X.cell? ⟨w.heap.size, 0, none⟩ = some (.int .i64 r.who) := (BK.out.cell 0).trans rfl
    have d1 : X.cell? ⟨w.heap.size, 1, none⟩ = some (.int .i64 r.tag) := (BK.out.cell 1).trans rfl
    have d2 : X.cell? ⟨w.heap.size, 2, none⟩ = some (.int .i64 r.prog) := (BK.out.cell 2).trans rfl
    have d3 : X.cell? ⟨w.heap.size, 3, none⟩ = some (.int .u64 r.a0) := (BK.out.cell 3).trans rfl
    have d4 : X.cell? ⟨w.heap.size, 4, none⟩ = some (.int .u64 r.a1) := (BK.out.cell 4).trans rfl
    have d5 : X.cell? ⟨w.heap.size, 5, none⟩ = some (.int .u64 r.a2) := (BK.out.cell 5).trans rfl
    have d6 : X.cell? ⟨w.heap.size, 6, none⟩ = some (.int .u64 r.a3) := (BK.out.cell 6).trans rfl
    have d7 : X.cell? ⟨w.heap.size, 7, none⟩ = some (.int .i64 r.from_) := (BK.out.cell 7).trans rfl
    have d8 : X.cell? ⟨w.heap.size, 8, none⟩ = some (.int .i64 r.till) := (BK.out.cell 8).trans rfl
    have d9 : X.cell? ⟨w.heap.size, 9, none⟩ = some (.int .i64 r.steps) := (BK.out.cell 9).trans rfl
    have d10 : X.cell? ⟨w.heap.size, 10, none⟩ = some (.bool r.done) := (BK.out.cell 10).trans rfl
    have d11 : X.cell? ⟨w.heap.size, 11, none⟩ = some (.int .i64 r.code) := (BK.out.cell 11).trans rfl
    have d12 : X.cell? ⟨w.heap.size, 12, none⟩ = some (.int .u64 r.val) := (BK.out.cell 12).trans rfl
    have e0 : X.drew.cell? ⟨w.heap.size, 0, none⟩ = some (.int .i64 r.who) := (BKd.out.cell 0).trans rfl
    have e1 : X.drew.cell? ⟨w.heap.size, 1, none⟩ = some (.int .i64 r.tag) := (BKd.out.cell 1).trans rfl
    have e2 : X.drew.cell? ⟨w.heap.size, 2, none⟩ = some (.int .i64 r.prog) := (BKd.out.cell 2).trans rfl
    have e3 : X.drew.cell? ⟨w.heap.size, 3, none⟩ = some (.int .u64 r.a0) := (BKd.out.cell 3).trans rfl
    have e4 : X.drew.cell? ⟨w.heap.size, 4, none⟩ = some (.int .u64 r.a1) := (BKd.out.cell 4).trans rfl
    have e5 : X.drew.cell? ⟨w.heap.size, 5, none⟩ = some (.int .u64 r.a2) := (BKd.out.cell 5).trans rfl
    have e6 : X.drew.cell? ⟨w.heap.size, 6, none⟩ = some (.int .u64 r.a3) := (BKd.out.cell 6).trans rfl
    have e7 : X.drew.cell? ⟨w.heap.size, 7, none⟩ = some (.int .i64 r.from_) := (BKd.out.cell 7).trans rfl
    have e8 : X.drew.cell? ⟨w.heap.size, 8, none⟩ = some (.int .i64 r.till) := (BKd.out.cell 8).trans rfl
    have e9 : X.drew.cell? ⟨w.heap.size, 9, none⟩ = some (.int .i64 r.steps) := (BKd.out.cell 9).trans rfl
    have e10 : X.drew.cell? ⟨w.heap.size, 10, none⟩ = some (.bool r.done) := (BKd.out.cell 10).trans rfl
    have e11 : X.drew.cell? ⟨w.heap.size, 11, none⟩ = some (.int .i64 r.code) := (BKd.out.cell 11).trans rfl
    have e12 : X.drew.cell? ⟨w.heap.size, 12, none⟩ = some (.int .u64 r.val) := (BKd.out.cell 12).trans rfl
    have hn1 : n ≤ 1000 := by omega
    have h3a : (-9223372036854775808 : Int) ≤ 3 := by decide
    have h3b : (3 : Int) ≤ 9223372036854775807 := by decide
    go_region_held3 (fun w' => w'.cell? ⟨w.heap.size, 0, none⟩ = some (.int .i64 r.who) ∧ w'.cell? ⟨w.heap.size, 1, none⟩ = some (.int .i64 r.tag) ∧ w'.cell? ⟨w.heap.size, 2, none⟩ = some (.int .i64 r.prog) ∧ w'.cell? ⟨w.heap.size, 3, none⟩ = some (.int .u64 r.a0) ∧ w'.cell? ⟨w.heap.size, 4, none⟩ = some (.int .u64 r.a1) ∧ w'.cell? ⟨w.heap.size, 5, none⟩ = some (.int .u64 r.a2) ∧ w'.cell? ⟨w.heap.size, 6, none⟩ = some (.int .u64 r.a3) ∧ w'.cell? ⟨w.heap.size, 7, none⟩ = some (.int .i64 r.from_) ∧ w'.cell? ⟨w.heap.size, 8, none⟩ = some (.int .i64 r.till) ∧ w'.cell? ⟨w.heap.size, 9, none⟩ = some (.int .i64 r.steps) ∧ w'.cell? ⟨w.heap.size, 10, none⟩ = some (.bool r.done) ∧ w'.cell? ⟨w.heap.size, 11, none⟩ = some (.int .i64 r.code) ∧ w'.cell? ⟨w.heap.size, 12, none⟩ = some (.int .u64 r.val))
      (first | exact ⟨e0, e1, e2, e3, e4, e5, e6, e7, e8, e9, e10, e11, e12⟩ | exact ⟨d0, d1, d2, d3, d4, d5, d6, d7, d8, d9, d10, d11, d12⟩ | go_keep)
      (first
        | (go_at_call 15
           refine (names_any _).mono ?_
           rintro e wn ⟨vn, rfl, hon, hbn⟩
           obtain ⟨An, cn, rfl, hcn, rdn⟩ := Rd.of_own_cap hon
           have HRn : Hid (RdS wn wn.heap.size An 19 (objNames.map str)) := by
             show Rd _ _ _ _ _ _
             rw [List.map_map]; exact rdn
           clear rdn hon
           have HBn : Hid (Below X.heap.size X wn) := Below.trans (by first | exact HBd.out | exact HBd.out.alloc hzd _ | exact ((Below.refl _ _).alloc (Nat.le_refl _) _).drew | exact (((Below.refl _ _).alloc (Nat.le_refl _) _).alloc (by rw [World.size_alloc]; omega) _).drew | exact (HBd.out.alloc hzd _).alloc (by rw [World.size_alloc]; omega) _) (hbn.mono (by first | exact hzd | (rw [World.size_alloc]; omega) | (rw [World.size_alloc, World.size_alloc]; omega) | (simp; done) | (simp; omega)))
           have HBd := HBn
           have hzd := HBd.out.size
           first
             | have KQ := Lib.hid (Bk.step KQ.out hbn)
             | have KQ := Lib.hid (Bk.step (KQ.out.alloc _) hbn)
             | have KQ := Lib.hid (Bk.step ((KQ.out.alloc _).alloc _) hbn)
             | (have K0 := Bk.step (Bk.new _ 57 #[.int .u64 limit, .slice A n c]) hbn; (try simp only [World.size_alloc] at K0); have KQ := Lib.hid K0; clear K0)
             | (have K0 := Bk.step ((Bk.new _ 57 #[.int .u64 limit, .slice A n c]).drew) hbn; (try simp only [World.size_alloc] at K0); have KQ := Lib.hid K0; clear K0)
             | (have K0 := Bk.step ((Bk.new _ 57 #[.int .u64 limit, .slice A n c]).alloc _) hbn; (try simp only [World.size_alloc] at K0); have KQ := Lib.hid K0; clear K0)
             | (have K0 := Bk.step (((Bk.new _ 57 #[.int .u64 limit, .slice A n c]).alloc _).drew) hbn; (try simp only [World.size_alloc] at K0); have KQ := Lib.hid K0; clear K0)
             | skip
           first
             | have KC := Lib.hid (Bk.step KC.out hbn)
             | have KC := Lib.hid (Bk.step (KC.out.alloc _) hbn)
             | have KC := Lib.hid (Bk.step ((KC.out.alloc _).alloc _) hbn)
             | (have K0 := Bk.step (Bk.new _ 59 #[.int .u64 limit, .slice A n c]) hbn; (try simp only [World.size_alloc] at K0); have KC := Lib.hid K0; clear K0)
             | (have K0 := Bk.step ((Bk.new _ 59 #[.int .u64 limit, .slice A n c]).drew) hbn; (try simp only [World.size_alloc] at K0); have KC := Lib.hid K0; clear K0)
             | (have K0 := Bk.step ((Bk.new _ 59 #[.int .u64 limit, .slice A n c]).alloc _) hbn; (try simp only [World.size_alloc] at K0); have KC := Lib.hid K0; clear K0)
             | (have K0 := Bk.step (((Bk.new _ 59 #[.int .u64 limit, .slice A n c]).alloc _).drew) hbn; (try simp only [World.size_alloc] at K0); have KC := Lib.hid K0; clear K0)
             | skip
           have BKd := Lib.hid (BK.out.below HBd.out hltX)
           have e0 : wn.cell? ⟨w.heap.size, 0, none⟩ = some (.int .i64 r.who) := (BKd.out.cell 0).trans rfl
           have e1 : wn.cell? ⟨w.heap.size, 1, none⟩ = some (.int .i64 r.tag) := (BKd.out.cell 1).trans rfl
           have e2 : wn.cell? ⟨w.heap.size, 2, none⟩ = some (.int .i64 r.prog) := (BKd.out.cell 2).trans rfl
           have e3 : wn.cell? ⟨w.heap.size, 3, none⟩ = some (.int .u64 r.a0) := (BKd.out.cell 3).trans rfl
           have e4 : wn.cell? ⟨w.heap.size, 4, none⟩ = some (.int .u64 r.a1) := (BKd.out.cell 4).trans rfl
           have e5 : wn.cell? ⟨w.heap.size, 5, none⟩ = some (.int .u64 r.a2) := (BKd.out.cell 5).trans rfl
           have e6 : wn.cell? ⟨w.heap.size, 6, none⟩ = some (.int .u64 r.a3) := (BKd.out.cell 6).trans rfl
           have e7 : wn.cell? ⟨w.heap.size, 7, none⟩ = some (.int .i64 r.from_) := (BKd.out.cell 7).trans rfl
           have e8 : wn.cell? ⟨w.heap.size, 8, none⟩ = some (.int .i64 r.till) := (BKd.out.cell 8).trans rfl
           have e9 : wn.cell? ⟨w.heap.size, 9, none⟩ = some (.int .i64 r.steps) := (BKd.out.cell 9).trans rfl
           have e10 : wn.cell? ⟨w.heap.size, 10, none⟩ = some (.bool r.done) := (BKd.out.cell 10).trans rfl
           have e11 : wn.cell? ⟨w.heap.size, 11, none⟩ = some (.int .i64 r.code) := (BKd.out.cell 11).trans rfl
           have e12 : wn.cell? ⟨w.heap.size, 12, none⟩ = some (.int .u64 r.val) := (BKd.out.cell 12).trans rfl
           clear hbn HBn)
        | (go_at_call 7
           refine (record_any (objNames.map str) An 19 cn r _ (by first | exact HRn.out | exact (HRn.out.alloc (Nat.le_refl _) _).more (by rw [World.size_alloc]; omega) | exact ((HRn.out.alloc (Nat.le_refl _) _).alloc (by rw [World.size_alloc]; omega) _).more (by rw [World.size_alloc, World.size_alloc]; omega)) HK.out (by decide) (lens_of r HK.out) (HTX.out.below (by first | exact HBd.out | exact HBd.out.alloc hzd _ | exact ((Below.refl _ _).alloc (Nat.le_refl _) _).drew | exact (((Below.refl _ _).alloc (Nat.le_refl _) _).alloc (by rw [World.size_alloc]; omega) _).drew | exact (HBd.out.alloc hzd _).alloc (by rw [World.size_alloc]; omega) _))).mono ?_
           rintro e wn ⟨rfl, hbn⟩
           rw [HR0.out]
           have HBn : Hid (Below X.heap.size X wn) := Below.trans (by first | exact HBd.out | exact HBd.out.alloc hzd _ | exact ((Below.refl _ _).alloc (Nat.le_refl _) _).drew | exact (((Below.refl _ _).alloc (Nat.le_refl _) _).alloc (by rw [World.size_alloc]; omega) _).drew | exact (HBd.out.alloc hzd _).alloc (by rw [World.size_alloc]; omega) _) (hbn.mono (by first | exact hzd | (rw [World.size_alloc]; omega) | (rw [World.size_alloc, World.size_alloc]; omega) | (simp; done) | (simp; omega)))
           have HBd := HBn
           have hzd := HBd.out.size
           first
             | have KQ := Lib.hid (Bk.step KQ.out hbn)
             | have KQ := Lib.hid (Bk.step (KQ.out.alloc _) hbn)
             | have KQ := Lib.hid (Bk.step ((KQ.out.alloc _).alloc _) hbn)
             | (have K0 := Bk.step (Bk.new _ 57 #[.int .u64 limit, .slice A n c]) hbn; (try simp only [World.size_alloc] at K0); have KQ := Lib.hid K0; clear K0)
             | (have K0 := Bk.step ((Bk.new _ 57 #[.int .u64 limit, .slice A n c]).drew) hbn; (try simp only [World.size_alloc] at K0); have KQ := Lib.hid K0; clear K0)
             | (have K0 := Bk.step ((Bk.new _ 57 #[.int .u64 limit, .slice A n c]).alloc _) hbn; (try simp only [World.size_alloc] at K0); have KQ := Lib.hid K0; clear K0)
             | (have K0 := Bk.step (((Bk.new _ 57 #[.int .u64 limit, .slice A n c]).alloc _).drew) hbn; (try simp only [World.size_alloc] at K0); have KQ := Lib.hid K0; clear K0)
             | skip
           first
             | have KC := Lib.hid (Bk.step KC.out hbn)
             | have KC := Lib.hid (Bk.step (KC.out.alloc _) hbn)
             | have KC := Lib.hid (Bk.step ((KC.out.alloc _).alloc _) hbn)
             | (have K0 := Bk.step (Bk.new _ 59 #[.int .u64 limit, .slice A n c]) hbn; (try simp only [World.size_alloc] at K0); have KC := Lib.hid K0; clear K0)
             | (have K0 := Bk.step ((Bk.new _ 59 #[.int .u64 limit, .slice A n c]).drew) hbn; (try simp only [World.size_alloc] at K0); have KC := Lib.hid K0; clear K0)
             | (have K0 := Bk.step ((Bk.new _ 59 #[.int .u64 limit, .slice A n c]).alloc _) hbn; (try simp only [World.size_alloc] at K0); have KC := Lib.hid K0; clear K0)
             | (have K0 := Bk.step (((Bk.new _ 59 #[.int .u64 limit, .slice A n c]).alloc _).drew) hbn; (try simp only [World.size_alloc] at K0); have KC := Lib.hid K0; clear K0)
             | skip
           have BKd := Lib.hid (BK.out.below HBd.out hltX)
           have e0 : wn.cell? ⟨w.heap.size, 0, none⟩ = some (.int .i64 r.who) := (BKd.out.cell 0).trans rfl
           have e1 : wn.cell? ⟨w.heap.size, 1, none⟩ = some (.int .i64 r.tag) := (BKd.out.cell 1).trans rfl
           have e2 : wn.cell? ⟨w.heap.size, 2, none⟩ = some (.int .i64 r.prog) := (BKd.out.cell 2).trans rfl
           have e3 : wn.cell? ⟨w.heap.size, 3, none⟩ = some (.int .u64 r.a0) := (BKd.out.cell 3).trans rfl
           have e4 : wn.cell? ⟨w.heap.size, 4, none⟩ = some (.int .u64 r.a1) := (BKd.out.cell 4).trans rfl
           have e5 : wn.cell? ⟨w.heap.size, 5, none⟩ = some (.int .u64 r.a2) := (BKd.out.cell 5).trans rfl
           have e6 : wn.cell? ⟨w.heap.size, 6, none⟩ = some (.int .u64 r.a3) := (BKd.out.cell 6).trans rfl
           have e7 : wn.cell? ⟨w.heap.size, 7, none⟩ = some (.int .i64 r.from_) := (BKd.out.cell 7).trans rfl
           have e8 : wn.cell? ⟨w.heap.size, 8, none⟩ = some (.int .i64 r.till) := (BKd.out.cell 8).trans rfl
           have e9 : wn.cell? ⟨w.heap.size, 9, none⟩ = some (.int .i64 r.steps) := (BKd.out.cell 9).trans rfl
           have e10 : wn.cell? ⟨w.heap.size, 10, none⟩ = some (.bool r.done) := (BKd.out.cell 10).trans rfl
           have e11 : wn.cell? ⟨w.heap.size, 11, none⟩ = some (.int .i64 r.code) := (BKd.out.cell 11).trans rfl
           have e12 : wn.cell? ⟨w.heap.size, 12, none⟩ = some (.int .u64 r.val) := (BKd.out.cell 12).trans rfl
           clear hbn HBn)
        | (go_at_call 13
           ((with_reducible refine (thing_queueK 3 limit l _ A n c _ ?_ ?_ h3a h3b HLm.out.1 HLm.out.2 HL.out hn1 ?_).mono ?_))
           · first | exact KQ.out | exact KQ.out.alloc _ | exact (KQ.out.alloc _).alloc _ | exact Bk.new _ _ _ | exact (Bk.new _ _ _).alloc _ | exact Bk.newAt _ _ _ _ (by simp) | exact (Bk.newAt _ _ _ _ (by simp)).alloc _
           · exact ((HRX.out.below (by first | exact HBd.out | exact HBd.out.alloc hzd _ | exact ((Below.refl _ _).alloc (Nat.le_refl _) _).drew | exact (((Below.refl _ _).alloc (Nat.le_refl _) _).alloc (by rw [World.size_alloc]; omega) _).drew | exact (HBd.out.alloc hzd _).alloc (by rw [World.size_alloc]; omega) _)).more (Below.size (by first | exact HBd.out | exact HBd.out.alloc hzd _ | exact ((Below.refl _ _).alloc (Nat.le_refl _) _).drew | exact (((Below.refl _ _).alloc (Nat.le_refl _) _).alloc (by rw [World.size_alloc]; omega) _).drew | exact (HBd.out.alloc hzd _).alloc (by rw [World.size_alloc]; omega) _)))
           · exact HTX.out.below (by first | exact HBd.out | exact HBd.out.alloc hzd _ | exact ((Below.refl _ _).alloc (Nat.le_refl _) _).drew | exact (((Below.refl _ _).alloc (Nat.le_refl _) _).alloc (by rw [World.size_alloc]; omega) _).drew | exact (HBd.out.alloc hzd _).alloc (by rw [World.size_alloc]; omega) _)
           rintro e wn ⟨rfl, hbn⟩
           rw [HR1.out]
           have HBn : Hid (Below X.heap.size X wn) := Below.trans (by first | exact HBd.out | exact HBd.out.alloc hzd _ | exact ((Below.refl _ _).alloc (Nat.le_refl _) _).drew | exact (((Below.refl _ _).alloc (Nat.le_refl _) _).alloc (by rw [World.size_alloc]; omega) _).drew | exact (HBd.out.alloc hzd _).alloc (by rw [World.size_alloc]; omega) _) (hbn.mono (by first | exact hzd | (rw [World.size_alloc]; omega) | (rw [World.size_alloc, World.size_alloc]; omega) | (simp; done) | (simp; omega)))
           have HBd := HBn
           have hzd := HBd.out.size
           first
             | have KQ := Lib.hid (Bk.step KQ.out hbn)
             | have KQ := Lib.hid (Bk.step (KQ.out.alloc _) hbn)
             | have KQ := Lib.hid (Bk.step ((KQ.out.alloc _).alloc _) hbn)
             | (have K0 := Bk.step (Bk.new _ 57 #[.int .u64 limit, .slice A n c]) hbn; (try simp only [World.size_alloc] at K0); have KQ := Lib.hid K0; clear K0)
             | (have K0 := Bk.step ((Bk.new _ 57 #[.int .u64 limit, .slice A n c]).drew) hbn; (try simp only [World.size_alloc] at K0); have KQ := Lib.hid K0; clear K0)
             | (have K0 := Bk.step ((Bk.new _ 57 #[.int .u64 limit, .slice A n c]).alloc _) hbn; (try simp only [World.size_alloc] at K0); have KQ := Lib.hid K0; clear K0)
             | (have K0 := Bk.step (((Bk.new _ 57 #[.int .u64 limit, .slice A n c]).alloc _).drew) hbn; (try simp only [World.size_alloc] at K0); have KQ := Lib.hid K0; clear K0)
             | skip
           first
             | have KC := Lib.hid (Bk.step KC.out hbn)
             | have KC := Lib.hid (Bk.step (KC.out.alloc _) hbn)
             | have KC := Lib.hid (Bk.step ((KC.out.alloc _).alloc _) hbn)
             | (have K0 := Bk.step (Bk.new _ 59 #[.int .u64 limit, .slice A n c]) hbn; (try simp only [World.size_alloc] at K0); have KC := Lib.hid K0; clear K0)
             | (have K0 := Bk.step ((Bk.new _ 59 #[.int .u64 limit, .slice A n c]).drew) hbn; (try simp only [World.size_alloc] at K0); have KC := Lib.hid K0; clear K0)
             | (have K0 := Bk.step ((Bk.new _ 59 #[.int .u64 limit, .slice A n c]).alloc _) hbn; (try simp only [World.size_alloc] at K0); have KC := Lib.hid K0; clear K0)
             | (have K0 := Bk.step (((Bk.new _ 59 #[.int .u64 limit, .slice A n c]).alloc _).drew) hbn; (try simp only [World.size_alloc] at K0); have KC := Lib.hid K0; clear K0)
             | skip
           have BKd := Lib.hid (BK.out.below HBd.out hltX)
           have e0 : wn.cell? ⟨w.heap.size, 0, none⟩ = some (.int .i64 r.who) := (BKd.out.cell 0).trans rfl
           have e1 : wn.cell? ⟨w.heap.size, 1, none⟩ = some (.int .i64 r.tag) := (BKd.out.cell 1).trans rfl
           have e2 : wn.cell? ⟨w.heap.size, 2, none⟩ = some (.int .i64 r.prog) := (BKd.out.cell 2).trans rfl
           have e3 : wn.cell? ⟨w.heap.size, 3, none⟩ = some (.int .u64 r.a0) := (BKd.out.cell 3).trans rfl
           have e4 : wn.cell? ⟨w.heap.size, 4, none⟩ = some (.int .u64 r.a1) := (BKd.out.cell 4).trans rfl
           have e5 : wn.cell? ⟨w.heap.size, 5, none⟩ = some (.int .u64 r.a2) := (BKd.out.cell 5).trans rfl
           have e6 : wn.cell? ⟨w.heap.size, 6, none⟩ = some (.int .u64 r.a3) := (BKd.out.cell 6).trans rfl
           have e7 : wn.cell? ⟨w.heap.size, 7, none⟩ = some (.int .i64 r.from_) := (BKd.out.cell 7).trans rfl
           have e8 : wn.cell? ⟨w.heap.size, 8, none⟩ = some (.int .i64 r.till) := (BKd.out.cell 8).trans rfl
           have e9 : wn.cell? ⟨w.heap.size, 9, none⟩ = some (.int .i64 r.steps) := (BKd.out.cell 9).trans rfl
           have e10 : wn.cell? ⟨w.heap.size, 10, none⟩ = some (.bool r.done) := (BKd.out.cell 10).trans rfl
           have e11 : wn.cell? ⟨w.heap.size, 11, none⟩ = some (.int .i64 r.code) := (BKd.out.cell 11).trans rfl
           have e12 : wn.cell? ⟨w.heap.size, 12, none⟩ = some (.int .u64 r.val) := (BKd.out.cell 12).trans rfl
           clear hbn HBn)
        | (go_at_call 13
           ((with_reducible refine (thing_chainK 3 limit l _ A n c _ ?_ ?_ h3a h3b HLm.out.1 HLm.out.2 HL.out hn1 ?_).mono ?_))
           · first | exact KC.out | exact KC.out.alloc _ | exact (KC.out.alloc _).alloc _ | exact Bk.new _ _ _ | exact (Bk.new _ _ _).alloc _ | exact Bk.newAt _ _ _ _ (by simp) | exact (Bk.newAt _ _ _ _ (by simp)).alloc _
           · exact ((HRX.out.below (by first | exact HBd.out | exact HBd.out.alloc hzd _ | exact ((Below.refl _ _).alloc (Nat.le_refl _) _).drew | exact (((Below.refl _ _).alloc (Nat.le_refl _) _).alloc (by rw [World.size_alloc]; omega) _).drew | exact (HBd.out.alloc hzd _).alloc (by rw [World.size_alloc]; omega) _)).more (Below.size (by first | exact HBd.out | exact HBd.out.alloc hzd _ | exact ((Below.refl _ _).alloc (Nat.le_refl _) _).drew | exact (((Below.refl _ _).alloc (Nat.le_refl _) _).alloc (by rw [World.size_alloc]; omega) _).drew | exact (HBd.out.alloc hzd _).alloc (by rw [World.size_alloc]; omega) _)))
           · exact HTX.out.below (by first | exact HBd.out | exact HBd.out.alloc hzd _ | exact ((Below.refl _ _).alloc (Nat.le_refl _) _).drew | exact (((Below.refl _ _).alloc (Nat.le_refl _) _).alloc (by rw [World.size_alloc]; omega) _).drew | exact (HBd.out.alloc hzd _).alloc (by rw [World.size_alloc]; omega) _)
           rintro e wn ⟨rfl, hbn⟩
           rw [HR2.out]
           have HBn : Hid (Below X.heap.size X wn) := Below.trans (by first | exact HBd.out | exact HBd.out.alloc hzd _ | exact ((Below.refl _ _).alloc (Nat.le_refl _) _).drew | exact (((Below.refl _ _).alloc (Nat.le_refl _) _).alloc (by rw [World.size_alloc]; omega) _).drew | exact (HBd.out.alloc hzd _).alloc (by rw [World.size_alloc]; omega) _) (hbn.mono (by first | exact hzd | (rw [World.size_alloc]; omega) | (rw [World.size_alloc, World.size_alloc]; omega) | (simp; done) | (simp; omega)))
           have HBd := HBn
           have hzd := HBd.out.size
           first
             | have KQ := Lib.hid (Bk.step KQ.out hbn)
             | have KQ := Lib.hid (Bk.step (KQ.out.alloc _) hbn)
             | have KQ := Lib.hid (Bk.step ((KQ.out.alloc _).alloc _) hbn)
             | (have K0 := Bk.step (Bk.new _ 57 #[.int .u64 limit, .slice A n c]) hbn; (try simp only [World.size_alloc] at K0); have KQ := Lib.hid K0; clear K0)
             | (have K0 := Bk.step ((Bk.new _ 57 #[.int .u64 limit, .slice A n c]).drew) hbn; (try simp only [World.size_alloc] at K0); have KQ := Lib.hid K0; clear K0)
             | (have K0 := Bk.step ((Bk.new _ 57 #[.int .u64 limit, .slice A n c]).alloc _) hbn; (try simp only [World.size_alloc] at K0); have KQ := Lib.hid K0; clear K0)
             | (have K0 := Bk.step (((Bk.new _ 57 #[.int .u64 limit, .slice A n c]).alloc _).drew) hbn; (try simp only [World.size_alloc] at K0); have KQ := Lib.hid K0; clear K0)
             | skip
           first
             | have KC := Lib.hid (Bk.step KC.out hbn)
             | have KC := Lib.hid (Bk.step (KC.out.alloc _) hbn)
             | have KC := Lib.hid (Bk.step ((KC.out.alloc _).alloc _) hbn)
             | (have K0 := Bk.step (Bk.new _ 59 #[.int .u64 limit, .slice A n c]) hbn; (try simp only [World.size_alloc] at K0); have KC := Lib.hid K0; clear K0)
             | (have K0 := Bk.step ((Bk.new _ 59 #[.int .u64 limit, .slice A n c]).drew) hbn; (try simp only [World.size_alloc] at K0); have KC := Lib.hid K0; clear K0)
             | (have K0 := Bk.step ((Bk.new _ 59 #[.int .u64 limit, .slice A n c]).alloc _) hbn; (try simp only [World.size_alloc] at K0); have KC := Lib.hid K0; clear K0)
             | (have K0 := Bk.step (((Bk.new _ 59 #[.int .u64 limit, .slice A n c]).alloc _).drew) hbn; (try simp only [World.size_alloc] at K0); have KC := Lib.hid K0; clear K0)
             | skip
           have BKd := Lib.hid (BK.out.below HBd.out hltX)
           have e0 : wn.cell? ⟨w.heap.size, 0, none⟩ = some (.int .i64 r.who) := (BKd.out.cell 0).trans rfl
           have e1 : wn.cell? ⟨w.heap.size, 1, none⟩ = some (.int .i64 r.tag) := (BKd.out.cell 1).trans rfl
           have e2 : wn.cell? ⟨w.heap.size, 2, none⟩ = some (.int .i64 r.prog) := (BKd.out.cell 2).trans rfl
           have e3 : wn.cell? ⟨w.heap.size, 3, none⟩ = some (.int .u64 r.a0) := (BKd.out.cell 3).trans rfl
           have e4 : wn.cell? ⟨w.heap.size, 4, none⟩ = some (.int .u64 r.a1) := (BKd.out.cell 4).trans rfl
           have e5 : wn.cell? ⟨w.heap.size, 5, none⟩ = some (.int .u64 r.a2) := (BKd.out.cell 5).trans rfl
           have e6 : wn.cell? ⟨w.heap.size, 6, none⟩ = some (.int .u64 r.a3) := (BKd.out.cell 6).trans rfl
           have e7 : wn.cell? ⟨w.heap.size, 7, none⟩ = some (.int .i64 r.from_) := (BKd.out.cell 7).trans rfl
           have e8 : wn.cell? ⟨w.heap.size, 8, none⟩ = some (.int .i64 r.till) := (BKd.out.cell 8).trans rfl
           have e9 : wn.cell? ⟨w.heap.size, 9, none⟩ = some (.int .i64 r.steps) := (BKd.out.cell 9).trans rfl
           have e10 : wn.cell? ⟨w.heap.size, 10, none⟩ = some (.bool r.done) := (BKd.out.cell 10).trans rfl
           have e11 : wn.cell? ⟨w.heap.size, 11, none⟩ = some (.int .i64 r.code) := (BKd.out.cell 11).trans rfl
           have e12 : wn.cell? ⟨w.heap.size, 12, none⟩ = some (.int .u64 r.val) := (BKd.out.cell 12).trans rfl
           clear hbn HBn))
    all_goals
      have HS1 : Hid (str (thingP 3 [113, 117, 101, 117, 101] limit (l.map dec)) = R1) := HR1.out
      have HS2 : Hid (str (thingP 3 [99, 104, 97, 105, 110] limit (l.map dec)) = R2) := HR2.out
      clear e0 e1 e2 e3 e4 e5 e6 e7 e8 e9 e10 e11 e12
      go_wp2
      go_meet
      case rel =>
        refine ⟨_, rfl, by rw [World.size_alloc]; omega, HB2.out.trans ((HBd.out.alloc hzd _).mono HB2.out.size), by omega, ?_⟩
        rw [HR0.out, HS1.out, HS2.out]
        exact Bk.new _ _ _
  case rest =>
    obtain ⟨g, rfl, hg, hbw, hgw, hbk⟩ := hcut.out
    have KL := Lib.hid hbk
    have BW := Lib.hid hbw
    clear hcut hbk hbw BK HT hltX hz2
    obtain ⟨t0, ht0, hn0⟩ := rec_line r HPl.out HK.out (rec_size r HK.out)
    obtain ⟨t1, ht1, hn1⟩ := thing_line 3 [113, 117, 101, 117, 101] limit l (by decide) (by decide) (by decide +kernel) HLm.out.1 HLm.out.2 HL.out (by rw [HLl.out]; omega) (things_size 3 limit _ l (by decide) (by decide) HLm.out.2 (by decide) (by rw [HLl.out]; omega) (fun x hx => (HL.out x hx).2))
    obtain ⟨t2, ht2, hn2⟩ := thing_line 3 [99, 104, 97, 105, 110] limit l (by decide) (by decide) (by decide +kernel) HLm.out.1 HLm.out.2 HL.out (by rw [HLl.out]; omega) (things_size 3 limit _ l (by decide) (by decide) HLm.out.2 (by decide) (by rw [HLl.out]; omega) (fun x hx => (HL.out x hx).2))
    rw [HLl.out] at hn1 hn2
    obtain ⟨C3, hC3⟩ : ∃ C3 : Array Value, #[.string (str (recordP (objNames.map str) r)), .string (str (thingP 3 [113, 117, 101, 117, 101] limit (l.map dec))), .string (str (thingP 3 [99, 104, 97, 105, 110] limit (l.map dec)))] = C3 := ⟨_, rfl⟩
    rw [hC3] at KL
    have HAt : Hid (∀ k : Nat, k < 3 → ∃ (S : ByteArray) (t : List Tok), C3[k]? = some (.string S) ∧ OneLine S t ∧ t.length ≤ 1000 ∧ S.size ≤ 65536 ∧ (0 < k → t.length = 5 + n)) := by
      intro k hk
      have h0 := rec_size r HK.out
      have h1 := things_size 3 limit [113, 117, 101, 117, 101] l (by decide) (by decide) HLm.out.2 (by decide) (by rw [HLl.out]; omega) (fun x hx => (HL.out x hx).2)
      have h2 := things_size 3 limit [99, 104, 97, 105, 110] l (by decide) (by decide) HLm.out.2 (by decide) (by rw [HLl.out]; omega) (fun x hx => (HL.out x hx).2)
      rw [← hC3]
      have hk3 : k = 0 ∨ k = 1 ∨ k = 2 := by omega
      rcases hk3 with rfl | rfl | rfl
      · exact ⟨_, t0, rfl, ht0, hn0, h0, fun h => absurd h (by decide)⟩
      · exact ⟨_, t1, rfl, ht1, by omega, h1, fun _ => hn1⟩
      · exact ⟨_, t2, rfl, ht2, by omega, h2, fun _ => hn2⟩
    clear hC3 ht0 ht1 ht2 hn0 hn1 hn2
    have hn30 : n ≤ 30 := by omega
    go_wp2
    go_loopw [86, 8, 9, 10, 11, 12, 14] (fun i _a _b _c _d _e _f wr => ∃ k : Nat, (k ≤ 3 ∧ i = .int .i64 k) ∧ Hid (Bk wr g 9 C3) ∧ Hid (Below w.heap.size w wr)) (fun i _ _ _ _ _ _ _ => 3 - (intOf i).toNat)
    case atStart => exact ⟨0, ⟨by omega, rfl⟩, KL, BW⟩
    case round =>
      obtain ⟨k, ⟨hk, rfl⟩, K, HB⟩ := hrel
      by_cases hlt : k < 3
      · obtain ⟨S, t, hcell, hone, hlen, hS, h5⟩ := HAt.out k hlt
        have q0 : wr.cell? ⟨g, k, none⟩ = some (.string S) := (K.out.cell k).trans hcell
        obtain ⟨m, hm⟩ : ∃ m, t.length = m + 1 := ⟨t.length - 1, by have := hone.2.1; omega⟩
        have HM := Lib.hid hm
        have HOne := Lib.hid hone
        have H5 := Lib.hid h5
        have hm1 : m ≤ 1000 := by omega
        clear hcell hone h5 hlen hm
        go_wp2_with fail
        refine (lex_any S _ (by unfold maxLen; omega)).mono ?_
        intro e w2 hp
        obtain ⟨v2, he2, hown2, hb2⟩ := hp
        rw [HOne.out.1] at he2 hown2
        simp only at he2 hown2
        subst he2
        obtain ⟨A2, c2, rfl, hc2, rd2⟩ := Rd.of_own_cap hown2
        rw [HM.out] at rd2 hc2 ⊢
        have RD := Lib.hid rd2
        have HB2 := Lib.hid (HB.out.trans (hb2.mono HB.out.size))
        have K2 := Lib.hid (K.out.below hb2 K.out.lt)
        obtain ⟨b, o, tl, rfl, hbl, htl, p0, _⟩ := rd2.tokAt (k := m) (by omega)
        have hkl : tl.kind = 3 := (HOne.out.2.2 m tl htl).2 HM.out.symm
        rw [hkl] at p0
        clear hown2 hb2 rd2 htl hkl HB K
        go_wp2
        go_loopw [120, 14] (fun j _t w3 => ∃ q : Nat, (q ≤ m ∧ j = .int .i64 q) ∧ Hid (Below w2.heap.size w2 w3)) (fun j _ _ => m - (intOf j).toNat)
        case atStart => exact ⟨0, ⟨by omega, rfl⟩, Below.refl _ _⟩
        case round =>
          obtain ⟨q, ⟨hq, rfl⟩, HBq⟩ := hrel
          have hzq := HBq.out.size
          by_cases hlq : q < m
          · obtain ⟨b', o', tq, hA, hbq, htq, c0, c1, c2', c3, c4⟩ := (RD.out.below HBq.out).tokAt (k := q) (by omega)
            obtain ⟨rfl, rfl⟩ : b = b' ∧ o = o' := by
              have := Option.some.inj hA
              injection this with h1 h2 h3
              exact ⟨h1, h2⟩
            have hkq : (tq.kind == 3) = false := by
              have h := (HOne.out.2.2 q tq htq)
              rw [HM.out] at h
              have : ¬ tq.kind = 3 := fun e => by have := h.1 e; omega
              simpa using this
            clear htq hA
            go_wp2
            go_roundw
            case rel => exact ⟨q + 1, ⟨by omega, by go_num⟩, HBq.out.alloc (Nat.le_trans (Nat.le_refl _) hzq) _⟩
            case measure => simp [intOf]; omega
          · obtain rfl : m = q := by omega
            have HBo := Lib.hid (HB2.out.trans (HBq.out.mono HB2.out.size))
            have Ko := Lib.hid (K2.out.below HBq.out K2.out.lt)
            by_cases hk0 : 0 < k
            · have h5 := H5.out hk0
              rw [HM.out] at h5
              have hne : (((m : Int) + 1) != (5 + (n : Int))) = false := by simp; omega
              clear h5
              go_wp2
              go_roundw
              case rel => exact ⟨k + 1, ⟨by omega, by go_num⟩, Ko, HBo⟩
              case measure => simp [intOf]; omega
            · obtain rfl : k = 0 := by omega
              go_wp2
              go_roundw
              case rel => exact ⟨1, ⟨by omega, by go_num⟩, Ko, HBo⟩
              case measure => simp [intOf]
      · obtain rfl : k = 3 := by omega
        go_wp2
        go_ret
        exact ⟨rfl, HB.out⟩
end Go.Proofs.YthklmcpjlpaklaaDoor
