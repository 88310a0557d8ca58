import Derived.Test.YtiiaingepbkikaaGreatDoorWoAG
import Derived.Test.YtiiaingepbkikaaGreatDoorWoAH
import Derived.Deep.RegionHeld3
import Derived.Deep.RegionLaw
import Derived.BigQuiet
namespace Go.Proofs.YtiiaingepbkikaaGreatDoor
open Go.RowKit
set_option linter.unusedVariables false
set_option linter.unusedSimpArgs false
theorem q_contains (w : World) (g : Nat) (hg : g = w.heap.size) (x : ByteArray) (hx : x ∈ [(⟨#[110, 101, 119]⟩ : ByteArray), ⟨#[112, 117, 116]⟩, ⟨#[116, 97, 107, 101]⟩, ⟨#[112, 101, 101, 107]⟩, ⟨#[115, 105, 122, 101]⟩, ⟨#[100, 114, 111, 112]⟩]) :
 Calls Tryz.prog 65 #[.slice (some ⟨g, 0, none⟩) 6 6, .string x] (w.alloc (.cells #[.string ⟨#[110, 101, 119]⟩, .string ⟨#[112, 117, 116]⟩, .string ⟨#[116, 97, 107, 101]⟩, .string ⟨#[112, 101, 101, 107]⟩, .string ⟨#[115, 105, 122, 101]⟩, .string ⟨#[100, 114, 111, 112]⟩] 9)) fun e w' => e = .returned (.bool true) ∧ w' = w.alloc (.cells #[.string ⟨#[110, 101, 119]⟩, .string ⟨#[112, 117, 116]⟩, .string ⟨#[116, 97, 107, 101]⟩, .string ⟨#[112, 101, 101, 107]⟩, .string ⟨#[115, 105, 122, 101]⟩, .string ⟨#[100, 114, 111, 112]⟩] 9) := by
 subst hg
 refine (Tryz.slices_Contains_string w.heap.size 0 6 6 [(⟨#[110, 101, 119]⟩ : ByteArray), ⟨#[112, 117, 116]⟩, ⟨#[116, 97, 107, 101]⟩, ⟨#[112, 101, 101, 107]⟩, ⟨#[115, 105, 122, 101]⟩, ⟨#[100, 114, 111, 112]⟩] x _ (by decide) (by decide) (fun j hj => ?_)).mono ?_
 ·rw [World.cell?_alloc_at _ _ _ _ rfl]
  simp only [List.length_cons, List.length_nil] at hj
  have : j = 0 ∨ j = 1 ∨ j = 2 ∨ j = 3 ∨ j = 4 ∨ j = 5 := by omega
  rcases this with rfl | rfl | rfl | rfl | rfl | rfl <;> rfl
 ·rintro e w' ⟨rfl, rfl⟩
  refine ⟨?_, rfl⟩
  rw [(Lib.containsS_iff _ _).2 (by simpa using hx)]
theorem results_tc {P : Program} {fn : Func} {p u : Tmp} {ty : TypeId} (h : fn.results = #[.tmp u, .cell p ty]) (tmps : Array Value) (w : World) (g : Nat) (t : TypeId) (cs : Array Value) (d : TypeDesc)
 (hp : tmps.getD p undef = .pointer (some ⟨g, 0, none⟩)) (hg : Bk w g t cs)
 (hu : P.underlying ty = some d) (hd : (match d with | .struct _ | .array _ _ => true | _ => false) = true) (hi : (P.info? ty).map (·.size) = some cs.size) :
 (results fn tmps).run P w = .ok (.tuple #[tmps.getD u undef, .agg cs]) w := by
 have hp' : tmps[p]?.getD undef = .pointer (some ⟨g, 0, none⟩) := by simpa using hp
 simp [results, h, hp', asAddr, run_loadVar_row w g t ty cs _ d hg hu hd hi]
theorem rd_bk1 {w : World} {g : Nat} {t : TypeId} {a : Int} (h : Bk w g t #[.int .u64 a]) : RdU w w.heap.size (some ⟨g, 0, none⟩) 1 [a] :=
 ⟨rfl, by simp [maxLen], fun _ => ⟨g, 0, rfl, h.lt, fun j u hu => by rw [Nat.zero_add, h.cell]; simpa using hu⟩⟩
theorem q_made {V : World} {M g b n c : Nat} {A : Option Addr} {cap : Int} {l : List Int} {t : TypeId} (ho : V.ownsRow M 32 1 (.slice A n c) n (l.map (Value.int .u64))) (hs : SlV A n c) (hn : Bk V b t #[.int .u64 cap, .slice A n c]) (hg : g < M) (hb : M ≤ b) (x y : Value) :
 QIn ((V.setCell ⟨g, 0, none⟩ x).setCell ⟨g, 1, none⟩ y) (.pointer (some ⟨b, 0, none⟩)) (some (cap, l)) := by
 have h1 := own_set (own_set ho (p := ⟨g, 0, none⟩) hg x) (p := ⟨g, 1, none⟩) hg y
 have h2 := bk_set_ne (bk_set_ne hn (p := ⟨g, 0, none⟩) (u := x) (show g ≠ b by omega)) (p := ⟨g, 1, none⟩) (u := y) (show g ≠ b by omega)
 exact ⟨b, A, n, c, rfl, hs, h2.lt, h2.cell 0, h2.cell 1, Rd.of_own' h1, own_int h1⟩
theorem elem_u64 : Tryz.prog.underlying 33 = some (.slice (Tryz.prog.elem 33)) := by kernel_rfl
theorem size_u64 (W : World) : (sizeOf (Tryz.prog.elem 33)).run Tryz.prog W = .ok 1 W := by kernel_rfl
theorem cut_1 {P : Program} {w : World} {B size n c : Nat} {A : Option Addr} {xs : List Value} (T : TypeId) (hT : P.underlying T = some (.slice (P.elem T))) (hs : ∀ W : World, (sizeOf (P.elem T)).run P W = .ok size W) (hr : Rd w B size A n xs) (hnc : n ≤ c) (hn : 0 < n) :
 ∃ A', (∀ W : World, (Instr.sliceAt T (.slice A n c) (some (.int .i64 1)) none none).run P W = .ok (.slice A' (n - 1) (c - 1)) W) ∧ Rd w B size A' (n - 1) (xs.drop size) ∧ A' ≠ none := by
 obtain ⟨A', h1, h2⟩ := cut_l T hT hs hr hnc 1 1 rfl (by omega)
 refine ⟨A', h1, by simpa using h2, ?_⟩
 rintro rfl
 obtain ⟨b, o, rfl, _⟩ := hr.at_ hn
 have h3 := h1 w
 rw [run_sliceAt_slice w T _ _ _ _ hT, run_slice_l w T _ n c hT .i64 1 (by omega) (by omega), hs] at h3
 simp [Result.andThen, sliced] at h3
 split at h3 <;> simp at h3
theorem list_pos {α : Type} {l : List α} (h : 0 < l.length) : ∃ x l', l = x :: l' := by
 rcases l with _ | ⟨x, l'⟩
 ·simp at h
 ·exact ⟨x, l', rfl⟩
theorem info_res : (Tryz.prog.info? 47).map (·.size) = some 2 := by kernel_rfl
theorem two_blocks (X : World) (a b : Array Value) (t u : TypeId) :
 Bk ((X.alloc (.cells a t)).alloc (.cells b u)) X.heap.size t a ∧ Bk ((X.alloc (.cells a t)).alloc (.cells b u)) (X.heap.size + 1) u b ∧
  Below X.heap.size X ((X.alloc (.cells a t)).alloc (.cells b u)) ∧ X.heap.size + 1 < ((X.alloc (.cells a t)).alloc (.cells b u)).heap.size := by
 refine ⟨(Bk.new X t a).alloc _, ?_, ((Below.refl _ _).alloc (Nat.le_refl _) _).alloc (by simp) _, by simp⟩
 have := Bk.new (X.alloc (.cells a t)) u b
 simpa using this
set_option maxRecDepth 100000 in
set_option maxHeartbeats 8000000 in
theorem qdoes_new (o : QO) (p : Value) (a : Int) (w : World) (hq : QIn w p o) (hok : QOk 100 o) (ha : U64' a) :
 Calls Tryz.prog 44 #[p, .string ⟨#[110, 101, 119]⟩, .int .u64 a] w (DoesQ w (qP 0 a o)) := by
 have HQ := Lib.hid hq
 have HA := Lib.hid ha
 rcases o with _ | ⟨cap, l⟩
 ·have hp0 : p = .pointer none := hq
  subst hp0
  clear hq hok ha
  go_enter Tryz.func44, Tryz.ntmps44
  go_wp2
  have tb := two_blocks w #[.int .i64 0, .int .u64 0] #[.int .u64 a, .slice none 0 0] 47 71
  refine bodyPost_ret (results_tc rfl _ _ w.heap.size 47 _ _ (by rfl) tb.1 Tryz.underlying47 rfl info_res) rfl ?_
  exact ⟨_, _, rfl, ⟨w.heap.size + 1, none, 0, 0, rfl, ⟨Nat.le_refl _, fun _ => rfl⟩, tb.2.2.2, tb.2.1.cell 0, tb.2.1.cell 1, Rd.nil _ _ _ _, InT.none _ _⟩, ⟨_, rfl⟩, ⟨_, _, rfl⟩, tb.2.2.1⟩
 ·obtain ⟨b, A, n, c, hp0, hc, hb, h0, h1, hr, _⟩ := hq
  subst hp0
  have HR := Lib.hid hr
  have HC := Lib.hid hc
  have HL := Lib.hid hr.u64Len
  obtain ⟨⟨hc0, hc1⟩, hok2, hl⟩ := hok
  have HM := Lib.hid hok2
  have hn : n ≤ 100 := by rw [← HL.out]; exact hl
  clear hr hc hok2 hl ha
  go_enter Tryz.func44, Tryz.ntmps44
  go_wp2
  have tb := two_blocks w #[.int .i64 40, .int .u64 4] #[.int .i64 40, .int .u64 4] 47 47
  refine bodyPost_ret (results_tc rfl _ _ w.heap.size 47 _ _ (by rfl) tb.1 Tryz.underlying47 rfl info_res) rfl ?_
  exact ⟨_, _, rfl, HQ.out.below tb.2.2.1, ⟨_, rfl⟩, ⟨_, _, rfl⟩, tb.2.2.1⟩
set_option maxRecDepth 100000 in
set_option maxHeartbeats 8000000 in
theorem qdoes_put (o : QO) (p : Value) (a : Int) (w : World) (hq : QIn w p o) (hok : QOk 100 o) (ha : U64' a) :
 Calls Tryz.prog 44 #[p, .string ⟨#[112, 117, 116]⟩, .int .u64 a] w (DoesQ w (qP 1 a o)) := by
 have HQ := Lib.hid hq
 have HA := Lib.hid ha
 rcases o with _ | ⟨cap, l⟩
 ·have hp0 : p = .pointer none := hq
  subst hp0
  clear hq hok ha
  go_enter Tryz.func44, Tryz.ntmps44
  go_wp2_with fail
  refine (q_names _).mono ?_
  rintro e wc ⟨rfl, rfl⟩
  go_wp2_with fail
  refine (q_contains _ _ (by simp) ⟨#[112, 117, 116]⟩ (by simp)).mono ?_
  rintro e wc ⟨rfl, rfl⟩
  obtain ⟨W1, hW1⟩ : ∃ W1, (w.alloc (.cells #[.int .i64 0, .int .u64 0] 47)).alloc (.cells #[.string ⟨#[110, 101, 119]⟩, .string ⟨#[112, 117, 116]⟩, .string ⟨#[116, 97, 107, 101]⟩, .string ⟨#[112, 101, 101, 107]⟩, .string ⟨#[115, 105, 122, 101]⟩, .string ⟨#[100, 114, 111, 112]⟩] 9) = W1 := ⟨_, rfl⟩
  have HK : Hid (Bk W1 w.heap.size 47 #[.int .i64 0, .int .u64 0]) := by show Bk _ _ _ _; rw [← hW1]; exact (Bk.new w _ _).alloc _
  have HB : Hid (Below w.heap.size w W1) := by show Below _ _ _; rw [← hW1]; exact ((Below.refl _ _).alloc (Nat.le_refl _) _).alloc (by simp) _
  rw [hW1]
  clear hW1
  have kc0 := HK.out.cell 0
  have kc1 := HK.out.cell 1
  have kf := HK.out.lt
  have kg0 := HK.out.frozen 0
  have kg1 := HK.out.frozen 1
  have hsz := HB.out.size
  go_wp2
  refine bodyPost_ret (results_tc rfl _ _ w.heap.size 47 _ _ (by rfl) (((HK.out.set_ 0 _).set_ 1 _).alloc _) Tryz.underlying47 rfl info_res) rfl ?_
  exact ⟨.pointer none, _, rfl, rfl, ⟨_, rfl⟩, ⟨_, _, rfl⟩, ((HB.out.setCell (Nat.le_refl _) _).setCell (Nat.le_refl _) _).alloc (by simp; omega) _⟩
 ·obtain ⟨b, A, n, c, hp0, hc, hb, h0, h1, hr, _⟩ := hq
  subst hp0
  have HR := Lib.hid hr
  have HC := Lib.hid hc
  have HL := Lib.hid hr.u64Len
  obtain ⟨⟨hc0, hc1⟩, hok2, hl⟩ := hok
  have HM := Lib.hid hok2
  have hn : n ≤ 100 := by rw [← HL.out]; exact hl
  clear hr hc hok2 hl ha
  go_enter Tryz.func44, Tryz.ntmps44
  go_wp2_with fail
  refine (q_names _).mono ?_
  rintro e wc ⟨rfl, rfl⟩
  go_wp2_with fail
  refine (q_contains _ _ (by simp) ⟨#[112, 117, 116]⟩ (by simp)).mono ?_
  rintro e wc ⟨rfl, rfl⟩
  obtain ⟨W1, hW1⟩ : ∃ W1, (w.alloc (.cells #[.int .i64 0, .int .u64 0] 47)).alloc (.cells #[.string ⟨#[110, 101, 119]⟩, .string ⟨#[112, 117, 116]⟩, .string ⟨#[116, 97, 107, 101]⟩, .string ⟨#[112, 101, 101, 107]⟩, .string ⟨#[115, 105, 122, 101]⟩, .string ⟨#[100, 114, 111, 112]⟩] 9) = W1 := ⟨_, rfl⟩
  have HK : Hid (Bk W1 w.heap.size 47 #[.int .i64 0, .int .u64 0]) := by show Bk _ _ _ _; rw [← hW1]; exact (Bk.new w _ _).alloc _
  have HB : Hid (Below w.heap.size w W1) := by show Below _ _ _; rw [← hW1]; exact ((Below.refl _ _).alloc (Nat.le_refl _) _).alloc (by simp) _
  rw [hW1]
  clear hW1
  have kc0 := HK.out.cell 0
  have kc1 := HK.out.cell 1
  have kf := HK.out.lt
  have kg0 := HK.out.frozen 0
  have kg1 := HK.out.frozen 1
  have hsz := HB.out.size
  have q0 : W1.cell? ⟨b, 0, none⟩ = some (.int .u64 cap) := (HB.out.cell (p := ⟨b, 0, none⟩) hb).trans h0
  have q1 : W1.cell? ⟨b, 1, none⟩ = some (.slice A n c) := (HB.out.cell (p := ⟨b, 1, none⟩) hb).trans h1
  by_cases hfull : cap ≤ (n : Int)
  ·have hq' : qP 1 a (some (cap, l)) = some (cap, l) := by show qS 1 a cap l = _; unfold qS; rw [if_pos rfl, if_pos (by rw [HL.out]; exact hfull)]
   have HE := Lib.hid hq'
   clear hq'
   go_wp2
   refine bodyPost_ret (results_tc rfl _ _ w.heap.size 47 _ _ (by rfl) (((HK.out.set_ 0 _).set_ 1 _).alloc _) Tryz.underlying47 rfl info_res) rfl ?_
   exact ⟨.pointer (some ⟨b, 0, none⟩), _, rfl, (by rw [HE.out]; exact HQ.out.below (((HB.out.setCell (Nat.le_refl _) _).setCell (Nat.le_refl _) _).alloc (by simp; omega) _)), ⟨_, rfl⟩, ⟨_, _, rfl⟩, ((HB.out.setCell (Nat.le_refl _) _).setCell (Nat.le_refl _) _).alloc (by simp; omega) _⟩
  ·have hq' : qP 1 a (some (cap, l)) = some (cap, l ++ [a]) := by show qS 1 a cap l = _; unfold qS; rw [if_pos rfl, if_neg (by rw [HL.out]; exact hfull)]
   have HE := Lib.hid hq'
   clear hq'
   go_wp2_with fail
   obtain ⟨i0, hi0, hy0, hy1, hy2⟩ := info_parts info_u64
   refine wp_region_held_drew (S := (fun w' => w'.cell? ⟨b, 0, none⟩ = some (.int .u64 cap) ∧ w'.cell? ⟨b, 1, none⟩ = some (.slice A n c))) (by kernel_rfl) ?_ (fun hHeld => ?_)
   ·exact ⟨q0, q1⟩
   refine takeA 0 ?_
   try simp only [Act.put, pS]
   refine takeA 1 ?_
   try simp only [Act.put, pS]
   refine takeA 2 ?_
   try simp only [Act.put, pS]
   refine takeA 3 ?_
   try simp only [Act.put, pS]
   refine takeA 4 ?_
   try simp only [Act.put, pS]
   refine takeA 5 ?_
   try simp only [Act.put, pS]
   refine takeA 6 ?_
   try simp only [Act.put, pS]
   refine takeA 7 ?_
   try simp only [Act.put, pS]
   refine takeA 9 ?_
   try simp only [Act.put, pS]
   refine takeA 14 ?_
   try simp only [Act.put, pS]
   refine takeA 15 ?_
   try simp only [Act.put, pS]
   refine takeA 16 ?_
   try simp only [Act.put, pS]
   obtain ⟨V0, hV0⟩ : ∃ V0, W1.drew = V0 := ⟨_, rfl⟩
   have HK : Hid (Bk V0 w.heap.size 47 #[.int .i64 0, .int .u64 0]) := by show Bk _ _ _ _; rw [← hV0]; exact HK.out
   have HB : Hid (Below w.heap.size w V0) := by show Below _ _ _; rw [← hV0]; exact HB.out.drew
   rw [hV0] at hHeld ⊢
   clear hV0 kc0 kc1 kf kg0 kg1 hsz q0 q1
   have HM0 : Hid (w.heap.size < V0.heap.size) := HK.out.lt
   have HRv := Lib.hid ((HR.out.below HB.out).more HB.out.size)
   refine comeH2 8 10 rfl rfl rfl rfl rfl rfl rfl rfl (by kernel_rfl) (by rfl) (by rfl) (fun K hK => ?_) (fun K hK => ?_)
   ·have HVs : Hid (V0.heap.size ≤ V0.heap.size) := Nat.le_refl _
    go_simp
    refine (cloneU_any l A n c _ HRv.out HC.out (by omega)).mono ?_
    rintro e w1 ⟨v1, rfl, hown, hb1⟩
    have HO : Hid (w1.ownsRow V0.heap.size 32 1 v1 n (l.map (Value.int .u64))) := own_base hown HVs.out
    have HB := Lib.hid (HB.out.trans (hb1.mono HB.out.size))
    have HK := Lib.hid (HK.out.below hb1 HK.out.lt)
    have HVs : Hid (V0.heap.size ≤ w1.heap.size) := Nat.le_trans HVs.out hb1.size
    clear hown hb1
    go_simp
    refine hK.out _ _ ?_ (fun hHeld => ?_)
    ·exact ⟨(HB.out.cell (p := ⟨b, 0, none⟩) hb).trans h0, (HB.out.cell (p := ⟨b, 1, none⟩) hb).trans h1⟩
    clear hK K
    try simp only [Act.put, pS]
    refine comeA 10 fun K hK => ?_
    go_simp
    obtain ⟨W2, hW7⟩ : ∃ W7, w1.alloc (.cells #[.int .u64 a] 32) = W7 := ⟨_, rfl⟩
    have hb7 : Below w1.heap.size w1 W2 := by rw [← hW7]; exact (Below.refl _ _).alloc (Nat.le_refl _) _
    have HN : Hid (Bk W2 w1.heap.size 32 #[.int .u64 a]) := by show Bk _ _ _ _; rw [← hW7]; exact Bk.new _ _ _
    have HO := Lib.hid (own_below HO.out hb7)
    have HB := Lib.hid (HB.out.trans (hb7.mono HB.out.size))
    have HK := Lib.hid (HK.out.below hb7 HK.out.lt)
    have HVs : Hid (V0.heap.size ≤ W2.heap.size) := Nat.le_trans HVs.out hb7.size
    rw [hW7]
    have HRn : Hid (RdU W2 W2.heap.size (some ⟨w1.heap.size, 0, none⟩) 1 [a]) := rd_bk1 HN.out
    clear hW7 hb7
    refine hK.out _ _ ?_ (fun hHeld => ?_)
    ·exact ⟨(HB.out.cell (p := ⟨b, 0, none⟩) hb).trans h0, (HB.out.cell (p := ⟨b, 1, none⟩) hb).trans h1⟩
    clear hK K
    try simp only [Act.put, pS]
    refine comeA 11 fun K hK => ?_
    have hvs := HVs.out
    refine wp_app (.tmp 53) (.tmp 55) 33 V0.heap.size 32 i0 _ 1 8 Tryz.underlying33 hi0 hy0 hy1 hy2 rfl (by decide) v1 n _ rfl HO.out _ _ 1 1 [.int .u64 a] rfl HRn.out (by intro u hu; simp at hu; subst hu; rfl) (by simp only [maxLen]; omega) (by omega) hvs ?_
    intro v5 w5 hown5 hg5 hv5
    have HO5 : Hid (w5.ownsRow V0.heap.size 32 1 v5 (n + 1) ((l ++ [a]).map (Value.int .u64))) := by show World.ownsRow _ _ _ _ _ _ _; simpa using hown5
    have HK := Lib.hid (HK.out.grown hg5 (fun e => by have := (HO.out.lt _ e).1; have := HM0.out; omega))
    have HB := Lib.hid (below_own HB.out HO.out hg5 (Nat.le_of_lt HM0.out) HB.out.size)
    have HVs : Hid (V0.heap.size ≤ w5.heap.size) := Nat.le_trans hvs hg5.size
    clear hown5 hg5 hv5 HO HRn HN hvs
    obtain ⟨A5, c5, rfl, hc5, _⟩ := own_slv HO5.out
    have HC5 := Lib.hid hc5
    clear hc5
    refine hK.out _ _ ?_ (fun hHeld => ?_)
    ·exact ⟨(HB.out.cell (p := ⟨b, 0, none⟩) hb).trans h0, (HB.out.cell (p := ⟨b, 1, none⟩) hb).trans h1⟩
    clear hK K
    try simp only [Act.put, pS]
    refine takeA 12 ?_
    try simp only [Act.put, pS]
    refine comeA 13 fun K hK => ?_
    go_simp
    obtain ⟨W8, hW8⟩ : ∃ W7, w5.alloc (.cells #[.int .u64 cap, .slice A5 (n + 1) c5] 71) = W7 := ⟨_, rfl⟩
    have hb8 : Below w5.heap.size w5 W8 := by rw [← hW8]; exact (Below.refl _ _).alloc (Nat.le_refl _) _
    have HN : Hid (Bk W8 w5.heap.size 71 #[.int .u64 cap, .slice A5 (n + 1) c5]) := by show Bk _ _ _ _; rw [← hW8]; exact Bk.new _ _ _
    have HO8 := Lib.hid (own_below HO5.out hb8)
    have HB := Lib.hid (HB.out.trans (hb8.mono HB.out.size))
    have HK := Lib.hid (HK.out.below hb8 HK.out.lt)
    rw [hW8]
    clear hW8 hb8 HO5
    refine hK.out _ _ ?_ (fun hHeld => ?_)
    ·exact ⟨(HB.out.cell (p := ⟨b, 0, none⟩) hb).trans h0, (HB.out.cell (p := ⟨b, 1, none⟩) hb).trans h1⟩
    clear hK K
    try simp only [Act.put, pS]
    refine takeA 17 ?_
    try simp only [Act.put, pS]
    refine comeA 18 fun K hK => ?_
    have kc0 := HK.out.cell 0
    have kc1 := HK.out.cell 1
    have kf := HK.out.lt
    have kg0 := HK.out.frozen 0
    have kg1 := HK.out.frozen 1
    have hsz := HB.out.size
    go_simp
    refine hK.out _ _ ?_ (fun hHeld => ?_)
    ·exact ⟨((((HB.out.setCell (Nat.le_refl _) _).setCell (Nat.le_refl _) _)).cell (p := ⟨b, 0, none⟩) hb).trans h0, ((((HB.out.setCell (Nat.le_refl _) _).setCell (Nat.le_refl _) _)).cell (p := ⟨b, 1, none⟩) hb).trans h1⟩
    clear hK K
    try simp only [Act.put, pS]
    refine wpAnyH_done (by kernel_rfl) ?_ _
    try simp only [Act.put, pS]
    clear hHeld
    go_wp2
    refine bodyPost_ret (results_tc rfl _ _ w.heap.size 47 _ _ (by rfl) ((HK.out.set_ 0 _).set_ 1 _) Tryz.underlying47 rfl info_res) rfl ?_
    exact ⟨.pointer (some ⟨w5.heap.size, 0, none⟩), _, rfl, (by rw [HE.out]; exact q_made HO8.out HC5.out HN.out HM0.out HVs.out _ _), ⟨_, rfl⟩, ⟨_, _, rfl⟩, ((HB.out.setCell (Nat.le_refl _) _).setCell (Nat.le_refl _) _)⟩
   ·have HVs : Hid (V0.heap.size ≤ V0.heap.size) := Nat.le_refl _
    go_simp
    obtain ⟨W2, hW7⟩ : ∃ W7, V0.alloc (.cells #[.int .u64 a] 32) = W7 := ⟨_, rfl⟩
    have hb7 : Below V0.heap.size V0 W2 := by rw [← hW7]; exact (Below.refl _ _).alloc (Nat.le_refl _) _
    have HN : Hid (Bk W2 V0.heap.size 32 #[.int .u64 a]) := by show Bk _ _ _ _; rw [← hW7]; exact Bk.new _ _ _
    have HB := Lib.hid (HB.out.trans (hb7.mono HB.out.size))
    have HK := Lib.hid (HK.out.below hb7 HK.out.lt)
    have HVs : Hid (V0.heap.size ≤ W2.heap.size) := Nat.le_trans HVs.out hb7.size
    rw [hW7]
    have HRn : Hid (RdU W2 W2.heap.size (some ⟨V0.heap.size, 0, none⟩) 1 [a]) := rd_bk1 HN.out
    have HRv := Lib.hid ((HRv.out.below hb7).more hb7.size)
    clear hW7 hb7
    refine hK.out _ _ ?_ (fun hHeld => ?_)
    ·exact ⟨(HB.out.cell (p := ⟨b, 0, none⟩) hb).trans h0, (HB.out.cell (p := ⟨b, 1, none⟩) hb).trans h1⟩
    clear hK K
    try simp only [Act.put, pS]
    refine comeA 8 fun K hK => ?_
    go_simp
    refine (cloneU_any l A n c _ HRv.out HC.out (by omega)).mono ?_
    rintro e w1 ⟨v1, rfl, hown, hb1⟩
    have HO : Hid (w1.ownsRow V0.heap.size 32 1 v1 n (l.map (Value.int .u64))) := own_base hown HVs.out
    have HB := Lib.hid (HB.out.trans (hb1.mono HB.out.size))
    have HK := Lib.hid (HK.out.below hb1 HK.out.lt)
    have HVs : Hid (V0.heap.size ≤ w1.heap.size) := Nat.le_trans HVs.out hb1.size
    have HRn := Lib.hid ((HRn.out.below hb1).more hb1.size)
    have HN := Lib.hid (HN.out.below hb1 HN.out.lt)
    clear hown hb1
    go_simp
    refine hK.out _ _ ?_ (fun hHeld => ?_)
    ·exact ⟨(HB.out.cell (p := ⟨b, 0, none⟩) hb).trans h0, (HB.out.cell (p := ⟨b, 1, none⟩) hb).trans h1⟩
    clear hK K
    try simp only [Act.put, pS]
    refine comeA 11 fun K hK => ?_
    have hvs := HVs.out
    refine wp_app (.tmp 53) (.tmp 55) 33 V0.heap.size 32 i0 _ 1 8 Tryz.underlying33 hi0 hy0 hy1 hy2 rfl (by decide) v1 n _ rfl HO.out _ _ 1 1 [.int .u64 a] rfl HRn.out (by intro u hu; simp at hu; subst hu; rfl) (by simp only [maxLen]; omega) (by omega) hvs ?_
    intro v5 w5 hown5 hg5 hv5
    have HO5 : Hid (w5.ownsRow V0.heap.size 32 1 v5 (n + 1) ((l ++ [a]).map (Value.int .u64))) := by show World.ownsRow _ _ _ _ _ _ _; simpa using hown5
    have HK := Lib.hid (HK.out.grown hg5 (fun e => by have := (HO.out.lt _ e).1; have := HM0.out; omega))
    have HB := Lib.hid (below_own HB.out HO.out hg5 (Nat.le_of_lt HM0.out) HB.out.size)
    have HVs : Hid (V0.heap.size ≤ w5.heap.size) := Nat.le_trans hvs hg5.size
    clear hown5 hg5 hv5 HO HRn HN hvs
    obtain ⟨A5, c5, rfl, hc5, _⟩ := own_slv HO5.out
    have HC5 := Lib.hid hc5
    clear hc5
    refine hK.out _ _ ?_ (fun hHeld => ?_)
    ·exact ⟨(HB.out.cell (p := ⟨b, 0, none⟩) hb).trans h0, (HB.out.cell (p := ⟨b, 1, none⟩) hb).trans h1⟩
    clear hK K
    try simp only [Act.put, pS]
    refine takeA 12 ?_
    try simp only [Act.put, pS]
    refine comeA 13 fun K hK => ?_
    go_simp
    obtain ⟨W8, hW8⟩ : ∃ W7, w5.alloc (.cells #[.int .u64 cap, .slice A5 (n + 1) c5] 71) = W7 := ⟨_, rfl⟩
    have hb8 : Below w5.heap.size w5 W8 := by rw [← hW8]; exact (Below.refl _ _).alloc (Nat.le_refl _) _
    have HN : Hid (Bk W8 w5.heap.size 71 #[.int .u64 cap, .slice A5 (n + 1) c5]) := by show Bk _ _ _ _; rw [← hW8]; exact Bk.new _ _ _
    have HO8 := Lib.hid (own_below HO5.out hb8)
    have HB := Lib.hid (HB.out.trans (hb8.mono HB.out.size))
    have HK := Lib.hid (HK.out.below hb8 HK.out.lt)
    rw [hW8]
    clear hW8 hb8 HO5
    refine hK.out _ _ ?_ (fun hHeld => ?_)
    ·exact ⟨(HB.out.cell (p := ⟨b, 0, none⟩) hb).trans h0, (HB.out.cell (p := ⟨b, 1, none⟩) hb).trans h1⟩
    clear hK K
    try simp only [Act.put, pS]
    refine takeA 17 ?_
    try simp only [Act.put, pS]
    refine comeA 18 fun K hK => ?_
    have kc0 := HK.out.cell 0
    have kc1 := HK.out.cell 1
    have kf := HK.out.lt
    have kg0 := HK.out.frozen 0
    have kg1 := HK.out.frozen 1
    have hsz := HB.out.size
    go_simp
    refine hK.out _ _ ?_ (fun hHeld => ?_)
    ·exact ⟨((((HB.out.setCell (Nat.le_refl _) _).setCell (Nat.le_refl _) _)).cell (p := ⟨b, 0, none⟩) hb).trans h0, ((((HB.out.setCell (Nat.le_refl _) _).setCell (Nat.le_refl _) _)).cell (p := ⟨b, 1, none⟩) hb).trans h1⟩
    clear hK K
    try simp only [Act.put, pS]
    refine wpAnyH_done (by kernel_rfl) ?_ _
    try simp only [Act.put, pS]
    clear hHeld
    go_wp2
    refine bodyPost_ret (results_tc rfl _ _ w.heap.size 47 _ _ (by rfl) ((HK.out.set_ 0 _).set_ 1 _) Tryz.underlying47 rfl info_res) rfl ?_
    exact ⟨.pointer (some ⟨w5.heap.size, 0, none⟩), _, rfl, (by rw [HE.out]; exact q_made HO8.out HC5.out HN.out HM0.out HVs.out _ _), ⟨_, rfl⟩, ⟨_, _, rfl⟩, ((HB.out.setCell (Nat.le_refl _) _).setCell (Nat.le_refl _) _)⟩
set_option maxRecDepth 100000 in
set_option maxHeartbeats 8000000 in
theorem qdoes_take (o : QO) (p : Value) (a : Int) (w : World) (hq : QIn w p o) (hok : QOk 100 o) (ha : U64' a) :
 Calls Tryz.prog 44 #[p, .string ⟨#[116, 97, 107, 101]⟩, .int .u64 a] w (DoesQ w (qP 2 a o)) := by
 have HQ := Lib.hid hq
 have HA := Lib.hid ha
 rcases o with _ | ⟨cap, l⟩
 ·have hp0 : p = .pointer none := hq
  subst hp0
  clear hq hok ha
  go_enter Tryz.func44, Tryz.ntmps44
  go_wp2_with fail
  refine (q_names _).mono ?_
  rintro e wc ⟨rfl, rfl⟩
  go_wp2_with fail
  refine (q_contains _ _ (by simp) ⟨#[116, 97, 107, 101]⟩ (by simp)).mono ?_
  rintro e wc ⟨rfl, rfl⟩
  obtain ⟨W1, hW1⟩ : ∃ W1, (w.alloc (.cells #[.int .i64 0, .int .u64 0] 47)).alloc (.cells #[.string ⟨#[110, 101, 119]⟩, .string ⟨#[112, 117, 116]⟩, .string ⟨#[116, 97, 107, 101]⟩, .string ⟨#[112, 101, 101, 107]⟩, .string ⟨#[115, 105, 122, 101]⟩, .string ⟨#[100, 114, 111, 112]⟩] 9) = W1 := ⟨_, rfl⟩
  have HK : Hid (Bk W1 w.heap.size 47 #[.int .i64 0, .int .u64 0]) := by show Bk _ _ _ _; rw [← hW1]; exact (Bk.new w _ _).alloc _
  have HB : Hid (Below w.heap.size w W1) := by show Below _ _ _; rw [← hW1]; exact ((Below.refl _ _).alloc (Nat.le_refl _) _).alloc (by simp) _
  rw [hW1]
  clear hW1
  have kc0 := HK.out.cell 0
  have kc1 := HK.out.cell 1
  have kf := HK.out.lt
  have kg0 := HK.out.frozen 0
  have kg1 := HK.out.frozen 1
  have hsz := HB.out.size
  go_wp2
  refine bodyPost_ret (results_tc rfl _ _ w.heap.size 47 _ _ (by rfl) (((HK.out.set_ 0 _).set_ 1 _).alloc _) Tryz.underlying47 rfl info_res) rfl ?_
  exact ⟨.pointer none, _, rfl, rfl, ⟨_, rfl⟩, ⟨_, _, rfl⟩, ((HB.out.setCell (Nat.le_refl _) _).setCell (Nat.le_refl _) _).alloc (by simp; omega) _⟩
 ·obtain ⟨b, A, n, c, hp0, hc, hb, h0, h1, hr, _⟩ := hq
  subst hp0
  have HR := Lib.hid hr
  have HC := Lib.hid hc
  have HL := Lib.hid hr.u64Len
  obtain ⟨⟨hc0, hc1⟩, hok2, hl⟩ := hok
  have HM := Lib.hid hok2
  have hn : n ≤ 100 := by rw [← HL.out]; exact hl
  clear hr hc hok2 hl ha
  go_enter Tryz.func44, Tryz.ntmps44
  go_wp2_with fail
  refine (q_names _).mono ?_
  rintro e wc ⟨rfl, rfl⟩
  go_wp2_with fail
  refine (q_contains _ _ (by simp) ⟨#[116, 97, 107, 101]⟩ (by simp)).mono ?_
  rintro e wc ⟨rfl, rfl⟩
  obtain ⟨W1, hW1⟩ : ∃ W1, (w.alloc (.cells #[.int .i64 0, .int .u64 0] 47)).alloc (.cells #[.string ⟨#[110, 101, 119]⟩, .string ⟨#[112, 117, 116]⟩, .string ⟨#[116, 97, 107, 101]⟩, .string ⟨#[112, 101, 101, 107]⟩, .string ⟨#[115, 105, 122, 101]⟩, .string ⟨#[100, 114, 111, 112]⟩] 9) = W1 := ⟨_, rfl⟩
  have HK : Hid (Bk W1 w.heap.size 47 #[.int .i64 0, .int .u64 0]) := by show Bk _ _ _ _; rw [← hW1]; exact (Bk.new w _ _).alloc _
  have HB : Hid (Below w.heap.size w W1) := by show Below _ _ _; rw [← hW1]; exact ((Below.refl _ _).alloc (Nat.le_refl _) _).alloc (by simp) _
  rw [hW1]
  clear hW1
  have kc0 := HK.out.cell 0
  have kc1 := HK.out.cell 1
  have kf := HK.out.lt
  have kg0 := HK.out.frozen 0
  have kg1 := HK.out.frozen 1
  have hsz := HB.out.size
  have q0 : W1.cell? ⟨b, 0, none⟩ = some (.int .u64 cap) := (HB.out.cell (p := ⟨b, 0, none⟩) hb).trans h0
  have q1 : W1.cell? ⟨b, 1, none⟩ = some (.slice A n c) := (HB.out.cell (p := ⟨b, 1, none⟩) hb).trans h1
  rcases Nat.eq_zero_or_pos n with h0n | hn0
  ·subst h0n
   have hl0 : l = [] := List.eq_nil_of_length_eq_zero HL.out
   subst hl0
   have hq' : qP 2 a (some (cap, [])) = some (cap, []) := by show qS 2 a cap [] = _; unfold qS; rfl
   have HE := Lib.hid hq'
   clear hq'
   go_wp2
   refine bodyPost_ret (results_tc rfl _ _ w.heap.size 47 _ _ (by rfl) (((HK.out.set_ 0 _).set_ 1 _).alloc _) Tryz.underlying47 rfl info_res) rfl ?_
   exact ⟨.pointer (some ⟨b, 0, none⟩), _, rfl, (by rw [HE.out]; exact HQ.out.below (((HB.out.setCell (Nat.le_refl _) _).setCell (Nat.le_refl _) _).alloc (by simp; omega) _)), ⟨_, rfl⟩, ⟨_, _, rfl⟩, ((HB.out.setCell (Nat.le_refl _) _).setCell (Nat.le_refl _) _).alloc (by simp; omega) _⟩
  ·skip
   obtain ⟨bA, oA, rfl, hbA, hcA⟩ := HR.out.at_ hn0
   obtain ⟨x0, l', rfl⟩ : ∃ x0 l', l = x0 :: l' := list_pos (HL.out.symm ▸ hn0)
   have h2 : w.cell? ⟨bA, oA, none⟩ = some (.int .u64 x0) := hcA 0 _ rfl
   clear hcA
   have q2 : W1.cell? ⟨bA, oA, none⟩ = some (.int .u64 x0) := (HB.out.cell (p := ⟨bA, oA, none⟩) hbA).trans h2
   have hnz : ¬ ((n : Int) = 0) := by omega
   have hnz2 : (0 : Int) < (n : Int) := by omega
   have hnz3 : ((n : Int) == 0) = false := beq_eq_false_iff_ne.2 hnz
   have hq' : qP 2 a (some (cap, x0 :: l')) = some (cap, l') := by show qS 2 a cap (x0 :: l') = _; unfold qS; rfl
   have HE := Lib.hid hq'
   clear hq'
   go_wp2_with fail
   obtain ⟨A1, hcut, hrd, hA1⟩ := cut_1 (P := Tryz.prog) 33 elem_u64 size_u64 HR.out HC.out.1 hn0
   have HRd : Hid (RdU w w.heap.size A1 (n - 1) l') := hrd
   have HA1 := Lib.hid hA1
   clear hrd hA1
   refine wp_region_held_drew (S := (fun w' => w'.cell? ⟨b, 0, none⟩ = some (.int .u64 cap) ∧ w'.cell? ⟨b, 1, none⟩ = some (.slice (some ⟨bA, oA, none⟩) n c) ∧ w'.cell? ⟨bA, oA, none⟩ = some (.int .u64 x0))) (by kernel_rfl) ?_ (fun hHeld => ?_)
   ·exact ⟨q0, q1, q2⟩
   refine takeA 0 ?_
   try simp only [Act.put, pS]
   refine takeA 1 ?_
   try simp only [Act.put, pS]
   refine takeA 2 ?_
   try simp only [Act.put, pS]
   refine takeA 3 ?_
   try simp only [Act.put, pS]
   refine takeA 4 ?_
   try simp only [Act.put, pS]
   refine takeA 5 ?_
   try simp only [Act.put, pS]
   refine takeA 6 ?_
   try simp only [Act.put, pS]
   refine takeA 7 ?_
   try simp only [Act.put, pS]
   refine takeA 8 ?_
   try simp only [Act.put, pS]
   refine takeA 12 ?_
   try simp only [Act.put, pS]
   refine takeA 13 ?_
   try simp only [Act.put, pS]
   refine takeA 14 ?_
   try simp only [Act.put, pS]
   refine takeA 15 ?_
   try simp only [Act.put, pS]
   refine takeA 16 ?_
   try simp only [Act.put, pS]
   refine takeA 17 ?_
   try simp only [Act.put, pS]
   refine takeA 18 ?_
   try simp only [Act.put, pS]
   obtain ⟨V0, hV0⟩ : ∃ V0, W1.drew = V0 := ⟨_, rfl⟩
   have HK : Hid (Bk V0 w.heap.size 47 #[.int .i64 0, .int .u64 0]) := by show Bk _ _ _ _; rw [← hV0]; exact HK.out
   have HB : Hid (Below w.heap.size w V0) := by show Below _ _ _; rw [← hV0]; exact HB.out.drew
   rw [hV0] at hHeld ⊢
   clear hV0 kc0 kc1 kf kg0 kg1 hsz q0 q1 q2 hcut
   have HM0 : Hid (w.heap.size < V0.heap.size) := HK.out.lt
   have HRv := Lib.hid ((HRd.out.below HB.out).more HB.out.size)
   refine comeA 9 fun K hK => ?_
   go_simp
   refine (cloneU_any l' A1 (n - 1) (c - 1) _ HRv.out ⟨by have := HC.out.1; omega, fun e => absurd e HA1.out⟩ (by omega)).mono ?_
   rintro e w1 ⟨v1, rfl, hown, hb1⟩
   have HO : Hid (w1.ownsRow V0.heap.size 32 1 v1 (n - 1) (l'.map (Value.int .u64))) := hown
   have HB := Lib.hid (HB.out.trans (hb1.mono HB.out.size))
   have HK := Lib.hid (HK.out.below hb1 HK.out.lt)
   have HVs : Hid (V0.heap.size ≤ w1.heap.size) := hb1.size
   clear hown hb1
   obtain ⟨A5, c5, rfl, hc5, _⟩ := own_slv HO.out
   have HC5 := Lib.hid hc5
   clear hc5
   go_simp
   refine hK.out _ _ ?_ (fun hHeld => ?_)
   ·exact ⟨(HB.out.cell (p := ⟨b, 0, none⟩) hb).trans h0, (HB.out.cell (p := ⟨b, 1, none⟩) hb).trans h1, (HB.out.cell (p := ⟨bA, oA, none⟩) hbA).trans h2⟩
   clear hK K
   try simp only [Act.put, pS]
   refine takeA 10 ?_
   try simp only [Act.put, pS]
   refine comeA 11 fun K hK => ?_
   go_simp
   obtain ⟨W8, hW8⟩ : ∃ W7, w1.alloc (.cells #[.int .u64 cap, .slice A5 (n - 1) c5] 71) = W7 := ⟨_, rfl⟩
   have hb8 : Below w1.heap.size w1 W8 := by rw [← hW8]; exact (Below.refl _ _).alloc (Nat.le_refl _) _
   have HN : Hid (Bk W8 w1.heap.size 71 #[.int .u64 cap, .slice A5 (n - 1) c5]) := by show Bk _ _ _ _; rw [← hW8]; exact Bk.new _ _ _
   have HO8 := Lib.hid (own_below HO.out hb8)
   have HB := Lib.hid (HB.out.trans (hb8.mono HB.out.size))
   have HK := Lib.hid (HK.out.below hb8 HK.out.lt)
   rw [hW8]
   clear hW8 hb8 HO
   refine hK.out _ _ ?_ (fun hHeld => ?_)
   ·exact ⟨(HB.out.cell (p := ⟨b, 0, none⟩) hb).trans h0, (HB.out.cell (p := ⟨b, 1, none⟩) hb).trans h1, (HB.out.cell (p := ⟨bA, oA, none⟩) hbA).trans h2⟩
   clear hK K
   try simp only [Act.put, pS]
   refine takeA 19 ?_
   try simp only [Act.put, pS]
   refine comeA 20 fun K hK => ?_
   have kc0 := HK.out.cell 0
   have kc1 := HK.out.cell 1
   have kf := HK.out.lt
   have kg0 := HK.out.frozen 0
   have kg1 := HK.out.frozen 1
   have hsz := HB.out.size
   go_simp
   refine hK.out _ _ ?_ (fun hHeld => ?_)
   ·exact ⟨((((HB.out.setCell (Nat.le_refl _) _).setCell (Nat.le_refl _) _)).cell (p := ⟨b, 0, none⟩) hb).trans h0, ((((HB.out.setCell (Nat.le_refl _) _).setCell (Nat.le_refl _) _)).cell (p := ⟨b, 1, none⟩) hb).trans h1, ((((HB.out.setCell (Nat.le_refl _) _).setCell (Nat.le_refl _) _)).cell (p := ⟨bA, oA, none⟩) hbA).trans h2⟩
   clear hK K
   try simp only [Act.put, pS]
   refine wpAnyH_done (by kernel_rfl) ?_ _
   try simp only [Act.put, pS]
   clear hHeld
   go_wp2
   refine bodyPost_ret (results_tc rfl _ _ w.heap.size 47 _ _ (by rfl) ((HK.out.set_ 0 _).set_ 1 _) Tryz.underlying47 rfl info_res) rfl ?_
   exact ⟨.pointer (some ⟨w1.heap.size, 0, none⟩), _, rfl, (by rw [HE.out]; exact q_made HO8.out HC5.out HN.out HM0.out HVs.out _ _), ⟨_, rfl⟩, ⟨_, _, rfl⟩, ((HB.out.setCell (Nat.le_refl _) _).setCell (Nat.le_refl _) _)⟩
set_option maxRecDepth 100000 in
set_option maxHeartbeats 8000000 in
theorem qdoes_peek (o : QO) (p : Value) (a : Int) (w : World) (hq : QIn w p o) (hok : QOk 100 o) (ha : U64' a) :
 Calls Tryz.prog 44 #[p, .string ⟨#[112, 101, 101, 107]⟩, .int .u64 a] w (DoesQ w (qP 3 a o)) := by
 have HQ := Lib.hid hq
 have HA := Lib.hid ha
 rcases o with _ | ⟨cap, l⟩
 ·have hp0 : p = .pointer none := hq
  subst hp0
  clear hq hok ha
  go_enter Tryz.func44, Tryz.ntmps44
  go_wp2_with fail
  refine (q_names _).mono ?_
  rintro e wc ⟨rfl, rfl⟩
  go_wp2_with fail
  refine (q_contains _ _ (by simp) ⟨#[112, 101, 101, 107]⟩ (by simp)).mono ?_
  rintro e wc ⟨rfl, rfl⟩
  obtain ⟨W1, hW1⟩ : ∃ W1, (w.alloc (.cells #[.int .i64 0, .int .u64 0] 47)).alloc (.cells #[.string ⟨#[110, 101, 119]⟩, .string ⟨#[112, 117, 116]⟩, .string ⟨#[116, 97, 107, 101]⟩, .string ⟨#[112, 101, 101, 107]⟩, .string ⟨#[115, 105, 122, 101]⟩, .string ⟨#[100, 114, 111, 112]⟩] 9) = W1 := ⟨_, rfl⟩
  have HK : Hid (Bk W1 w.heap.size 47 #[.int .i64 0, .int .u64 0]) := by show Bk _ _ _ _; rw [← hW1]; exact (Bk.new w _ _).alloc _
  have HB : Hid (Below w.heap.size w W1) := by show Below _ _ _; rw [← hW1]; exact ((Below.refl _ _).alloc (Nat.le_refl _) _).alloc (by simp) _
  rw [hW1]
  clear hW1
  have kc0 := HK.out.cell 0
  have kc1 := HK.out.cell 1
  have kf := HK.out.lt
  have kg0 := HK.out.frozen 0
  have kg1 := HK.out.frozen 1
  have hsz := HB.out.size
  go_wp2
  refine bodyPost_ret (results_tc rfl _ _ w.heap.size 47 _ _ (by rfl) (((HK.out.set_ 0 _).set_ 1 _).alloc _) Tryz.underlying47 rfl info_res) rfl ?_
  exact ⟨.pointer none, _, rfl, rfl, ⟨_, rfl⟩, ⟨_, _, rfl⟩, ((HB.out.setCell (Nat.le_refl _) _).setCell (Nat.le_refl _) _).alloc (by simp; omega) _⟩
 ·obtain ⟨b, A, n, c, hp0, hc, hb, h0, h1, hr, _⟩ := hq
  subst hp0
  have HR := Lib.hid hr
  have HC := Lib.hid hc
  have HL := Lib.hid hr.u64Len
  obtain ⟨⟨hc0, hc1⟩, hok2, hl⟩ := hok
  have HM := Lib.hid hok2
  have hn : n ≤ 100 := by rw [← HL.out]; exact hl
  clear hr hc hok2 hl ha
  go_enter Tryz.func44, Tryz.ntmps44
  go_wp2_with fail
  refine (q_names _).mono ?_
  rintro e wc ⟨rfl, rfl⟩
  go_wp2_with fail
  refine (q_contains _ _ (by simp) ⟨#[112, 101, 101, 107]⟩ (by simp)).mono ?_
  rintro e wc ⟨rfl, rfl⟩
  obtain ⟨W1, hW1⟩ : ∃ W1, (w.alloc (.cells #[.int .i64 0, .int .u64 0] 47)).alloc (.cells #[.string ⟨#[110, 101, 119]⟩, .string ⟨#[112, 117, 116]⟩, .string ⟨#[116, 97, 107, 101]⟩, .string ⟨#[112, 101, 101, 107]⟩, .string ⟨#[115, 105, 122, 101]⟩, .string ⟨#[100, 114, 111, 112]⟩] 9) = W1 := ⟨_, rfl⟩
  have HK : Hid (Bk W1 w.heap.size 47 #[.int .i64 0, .int .u64 0]) := by show Bk _ _ _ _; rw [← hW1]; exact (Bk.new w _ _).alloc _
  have HB : Hid (Below w.heap.size w W1) := by show Below _ _ _; rw [← hW1]; exact ((Below.refl _ _).alloc (Nat.le_refl _) _).alloc (by simp) _
  rw [hW1]
  clear hW1
  have kc0 := HK.out.cell 0
  have kc1 := HK.out.cell 1
  have kf := HK.out.lt
  have kg0 := HK.out.frozen 0
  have kg1 := HK.out.frozen 1
  have hsz := HB.out.size
  have q0 : W1.cell? ⟨b, 0, none⟩ = some (.int .u64 cap) := (HB.out.cell (p := ⟨b, 0, none⟩) hb).trans h0
  have q1 : W1.cell? ⟨b, 1, none⟩ = some (.slice A n c) := (HB.out.cell (p := ⟨b, 1, none⟩) hb).trans h1
  rcases Nat.eq_zero_or_pos n with h0n | hn0
  ·subst h0n
   have hl0 : l = [] := List.eq_nil_of_length_eq_zero HL.out
   subst hl0
   have hq' : qP 3 a (some (cap, [])) = some (cap, []) := by show qS 3 a cap [] = _; unfold qS; rw [if_neg (by omega), if_neg (by omega), if_neg (by simp)]
   have HE := Lib.hid hq'
   clear hq'
   go_wp2
   refine bodyPost_ret (results_tc rfl _ _ w.heap.size 47 _ _ (by rfl) (((HK.out.set_ 0 _).set_ 1 _).alloc _) Tryz.underlying47 rfl info_res) rfl ?_
   exact ⟨.pointer (some ⟨b, 0, none⟩), _, rfl, (by rw [HE.out]; exact HQ.out.below (((HB.out.setCell (Nat.le_refl _) _).setCell (Nat.le_refl _) _).alloc (by simp; omega) _)), ⟨_, rfl⟩, ⟨_, _, rfl⟩, ((HB.out.setCell (Nat.le_refl _) _).setCell (Nat.le_refl _) _).alloc (by simp; omega) _⟩
  ·skip
   obtain ⟨bA, oA, rfl, hbA, hcA⟩ := HR.out.at_ hn0
   obtain ⟨x0, l', rfl⟩ : ∃ x0 l', l = x0 :: l' := list_pos (HL.out.symm ▸ hn0)
   have h2 : w.cell? ⟨bA, oA, none⟩ = some (.int .u64 x0) := hcA 0 _ rfl
   clear hcA
   have q2 : W1.cell? ⟨bA, oA, none⟩ = some (.int .u64 x0) := (HB.out.cell (p := ⟨bA, oA, none⟩) hbA).trans h2
   have hnz : ¬ ((n : Int) = 0) := by omega
   have hnz2 : (0 : Int) < (n : Int) := by omega
   have hnz3 : ((n : Int) == 0) = false := beq_eq_false_iff_ne.2 hnz
   have hq' : qP 3 a (some (cap, x0 :: l')) = some (cap, x0 :: l') := by show qS 3 a cap (x0 :: l') = _; unfold qS; rw [if_neg (by omega), if_neg (by omega), if_neg (by simp)]
   have HE := Lib.hid hq'
   clear hq'
   go_wp2_with fail
   refine wp_region_held_drew (S := (fun w' => w'.cell? ⟨b, 0, none⟩ = some (.int .u64 cap) ∧ w'.cell? ⟨b, 1, none⟩ = some (.slice (some ⟨bA, oA, none⟩) n c) ∧ w'.cell? ⟨bA, oA, none⟩ = some (.int .u64 x0))) (by kernel_rfl) ?_ (fun hHeld => ?_)
   ·exact ⟨q0, q1, q2⟩
   refine takeA 0 ?_
   try simp only [Act.put, pS]
   refine takeA 1 ?_
   try simp only [Act.put, pS]
   refine takeA 2 ?_
   try simp only [Act.put, pS]
   refine takeA 3 ?_
   try simp only [Act.put, pS]
   refine takeA 4 ?_
   try simp only [Act.put, pS]
   refine takeA 5 ?_
   try simp only [Act.put, pS]
   refine takeA 6 ?_
   try simp only [Act.put, pS]
   refine takeA 7 ?_
   try simp only [Act.put, pS]
   refine takeA 8 ?_
   try simp only [Act.put, pS]
   obtain ⟨V0, hV0⟩ : ∃ V0, W1.drew = V0 := ⟨_, rfl⟩
   have HK : Hid (Bk V0 w.heap.size 47 #[.int .i64 0, .int .u64 0]) := by show Bk _ _ _ _; rw [← hV0]; exact HK.out
   have HB : Hid (Below w.heap.size w V0) := by show Below _ _ _; rw [← hV0]; exact HB.out.drew
   rw [hV0] at hHeld ⊢
   clear hV0 kc0 kc1 kf kg0 kg1 hsz q0 q1 q2
   refine comeA 9 fun K hK => ?_
   have kc0 := HK.out.cell 0
   have kc1 := HK.out.cell 1
   have kf := HK.out.lt
   have kg0 := HK.out.frozen 0
   have kg1 := HK.out.frozen 1
   have hsz := HB.out.size
   go_simp
   refine hK.out _ _ ?_ (fun hHeld => ?_)
   ·exact ⟨((((HB.out.setCell (Nat.le_refl _) _).setCell (Nat.le_refl _) _)).cell (p := ⟨b, 0, none⟩) hb).trans h0, ((((HB.out.setCell (Nat.le_refl _) _).setCell (Nat.le_refl _) _)).cell (p := ⟨b, 1, none⟩) hb).trans h1, ((((HB.out.setCell (Nat.le_refl _) _).setCell (Nat.le_refl _) _)).cell (p := ⟨bA, oA, none⟩) hbA).trans h2⟩
   clear hK K
   try simp only [Act.put, pS]
   refine wpAnyH_done (by kernel_rfl) ?_ _
   try simp only [Act.put, pS]
   clear hHeld
   go_wp2
   refine bodyPost_ret (results_tc rfl _ _ w.heap.size 47 _ _ (by rfl) ((HK.out.set_ 0 _).set_ 1 _) Tryz.underlying47 rfl info_res) rfl ?_
   exact ⟨.pointer (some ⟨b, 0, none⟩), _, rfl, (by rw [HE.out]; exact HQ.out.below (((HB.out.setCell (Nat.le_refl _) _).setCell (Nat.le_refl _) _))), ⟨_, rfl⟩, ⟨_, _, rfl⟩, ((HB.out.setCell (Nat.le_refl _) _).setCell (Nat.le_refl _) _)⟩
set_option maxRecDepth 100000 in
set_option maxHeartbeats 8000000 in
theorem qdoes_size (o : QO) (p : Value) (a : Int) (w : World) (hq : QIn w p o) (hok : QOk 100 o) (ha : U64' a) :
 Calls Tryz.prog 44 #[p, .string ⟨#[115, 105, 122, 101]⟩, .int .u64 a] w (DoesQ w (qP 4 a o)) := by
 have HQ := Lib.hid hq
 have HA := Lib.hid ha
 rcases o with _ | ⟨cap, l⟩
 ·have hp0 : p = .pointer none := hq
  subst hp0
  clear hq hok ha
  go_enter Tryz.func44, Tryz.ntmps44
  go_wp2_with fail
  refine (q_names _).mono ?_
  rintro e wc ⟨rfl, rfl⟩
  go_wp2_with fail
  refine (q_contains _ _ (by simp) ⟨#[115, 105, 122, 101]⟩ (by simp)).mono ?_
  rintro e wc ⟨rfl, rfl⟩
  obtain ⟨W1, hW1⟩ : ∃ W1, (w.alloc (.cells #[.int .i64 0, .int .u64 0] 47)).alloc (.cells #[.string ⟨#[110, 101, 119]⟩, .string ⟨#[112, 117, 116]⟩, .string ⟨#[116, 97, 107, 101]⟩, .string ⟨#[112, 101, 101, 107]⟩, .string ⟨#[115, 105, 122, 101]⟩, .string ⟨#[100, 114, 111, 112]⟩] 9) = W1 := ⟨_, rfl⟩
  have HK : Hid (Bk W1 w.heap.size 47 #[.int .i64 0, .int .u64 0]) := by show Bk _ _ _ _; rw [← hW1]; exact (Bk.new w _ _).alloc _
  have HB : Hid (Below w.heap.size w W1) := by show Below _ _ _; rw [← hW1]; exact ((Below.refl _ _).alloc (Nat.le_refl _) _).alloc (by simp) _
  rw [hW1]
  clear hW1
  have kc0 := HK.out.cell 0
  have kc1 := HK.out.cell 1
  have kf := HK.out.lt
  have kg0 := HK.out.frozen 0
  have kg1 := HK.out.frozen 1
  have hsz := HB.out.size
  go_wp2
  refine bodyPost_ret (results_tc rfl _ _ w.heap.size 47 _ _ (by rfl) (((HK.out.set_ 0 _).set_ 1 _).alloc _) Tryz.underlying47 rfl info_res) rfl ?_
  exact ⟨.pointer none, _, rfl, rfl, ⟨_, rfl⟩, ⟨_, _, rfl⟩, ((HB.out.setCell (Nat.le_refl _) _).setCell (Nat.le_refl _) _).alloc (by simp; omega) _⟩
 ·obtain ⟨b, A, n, c, hp0, hc, hb, h0, h1, hr, _⟩ := hq
  subst hp0
  have HR := Lib.hid hr
  have HC := Lib.hid hc
  have HL := Lib.hid hr.u64Len
  obtain ⟨⟨hc0, hc1⟩, hok2, hl⟩ := hok
  have HM := Lib.hid hok2
  have hn : n ≤ 100 := by rw [← HL.out]; exact hl
  clear hr hc hok2 hl ha
  go_enter Tryz.func44, Tryz.ntmps44
  go_wp2_with fail
  refine (q_names _).mono ?_
  rintro e wc ⟨rfl, rfl⟩
  go_wp2_with fail
  refine (q_contains _ _ (by simp) ⟨#[115, 105, 122, 101]⟩ (by simp)).mono ?_
  rintro e wc ⟨rfl, rfl⟩
  obtain ⟨W1, hW1⟩ : ∃ W1, (w.alloc (.cells #[.int .i64 0, .int .u64 0] 47)).alloc (.cells #[.string ⟨#[110, 101, 119]⟩, .string ⟨#[112, 117, 116]⟩, .string ⟨#[116, 97, 107, 101]⟩, .string ⟨#[112, 101, 101, 107]⟩, .string ⟨#[115, 105, 122, 101]⟩, .string ⟨#[100, 114, 111, 112]⟩] 9) = W1 := ⟨_, rfl⟩
  have HK : Hid (Bk W1 w.heap.size 47 #[.int .i64 0, .int .u64 0]) := by show Bk _ _ _ _; rw [← hW1]; exact (Bk.new w _ _).alloc _
  have HB : Hid (Below w.heap.size w W1) := by show Below _ _ _; rw [← hW1]; exact ((Below.refl _ _).alloc (Nat.le_refl _) _).alloc (by simp) _
  rw [hW1]
  clear hW1
  have kc0 := HK.out.cell 0
  have kc1 := HK.out.cell 1
  have kf := HK.out.lt
  have kg0 := HK.out.frozen 0
  have kg1 := HK.out.frozen 1
  have hsz := HB.out.size
  have q0 : W1.cell? ⟨b, 0, none⟩ = some (.int .u64 cap) := (HB.out.cell (p := ⟨b, 0, none⟩) hb).trans h0
  have q1 : W1.cell? ⟨b, 1, none⟩ = some (.slice A n c) := (HB.out.cell (p := ⟨b, 1, none⟩) hb).trans h1
  have hq' : qP 4 a (some (cap, l)) = some (cap, l) := by show qS 4 a cap l = _; unfold qS; rw [if_neg (by omega), if_neg (by omega), if_neg (by simp)]
  have HE := Lib.hid hq'
  clear hq'
  go_wp2
  refine bodyPost_ret (results_tc rfl _ _ w.heap.size 47 _ _ (by rfl) ((HK.out.set_ 0 _).set_ 1 _) Tryz.underlying47 rfl info_res) rfl ?_
  exact ⟨.pointer (some ⟨b, 0, none⟩), _, rfl, (by rw [HE.out]; exact HQ.out.below (((HB.out.setCell (Nat.le_refl _) _).setCell (Nat.le_refl _) _))), ⟨_, rfl⟩, ⟨_, _, rfl⟩, ((HB.out.setCell (Nat.le_refl _) _).setCell (Nat.le_refl _) _)⟩
set_option maxRecDepth 100000 in
set_option maxHeartbeats 8000000 in
theorem qdoes_drop (o : QO) (p : Value) (a : Int) (w : World) (hq : QIn w p o) (hok : QOk 100 o) (ha : U64' a) :
 Calls Tryz.prog 44 #[p, .string ⟨#[100, 114, 111, 112]⟩, .int .u64 a] w (DoesQ w (qP 5 a o)) := by
 have HQ := Lib.hid hq
 have HA := Lib.hid ha
 rcases o with _ | ⟨cap, l⟩
 ·have hp0 : p = .pointer none := hq
  subst hp0
  clear hq hok ha
  go_enter Tryz.func44, Tryz.ntmps44
  go_wp2_with fail
  refine (q_names _).mono ?_
  rintro e wc ⟨rfl, rfl⟩
  go_wp2_with fail
  refine (q_contains _ _ (by simp) ⟨#[100, 114, 111, 112]⟩ (by simp)).mono ?_
  rintro e wc ⟨rfl, rfl⟩
  obtain ⟨W1, hW1⟩ : ∃ W1, (w.alloc (.cells #[.int .i64 0, .int .u64 0] 47)).alloc (.cells #[.string ⟨#[110, 101, 119]⟩, .string ⟨#[112, 117, 116]⟩, .string ⟨#[116, 97, 107, 101]⟩, .string ⟨#[112, 101, 101, 107]⟩, .string ⟨#[115, 105, 122, 101]⟩, .string ⟨#[100, 114, 111, 112]⟩] 9) = W1 := ⟨_, rfl⟩
  have HK : Hid (Bk W1 w.heap.size 47 #[.int .i64 0, .int .u64 0]) := by show Bk _ _ _ _; rw [← hW1]; exact (Bk.new w _ _).alloc _
  have HB : Hid (Below w.heap.size w W1) := by show Below _ _ _; rw [← hW1]; exact ((Below.refl _ _).alloc (Nat.le_refl _) _).alloc (by simp) _
  rw [hW1]
  clear hW1
  have kc0 := HK.out.cell 0
  have kc1 := HK.out.cell 1
  have kf := HK.out.lt
  have kg0 := HK.out.frozen 0
  have kg1 := HK.out.frozen 1
  have hsz := HB.out.size
  go_wp2
  refine bodyPost_ret (results_tc rfl _ _ w.heap.size 47 _ _ (by rfl) (((HK.out.set_ 0 _).set_ 1 _).alloc _) Tryz.underlying47 rfl info_res) rfl ?_
  exact ⟨.pointer none, _, rfl, rfl, ⟨_, rfl⟩, ⟨_, _, rfl⟩, ((HB.out.setCell (Nat.le_refl _) _).setCell (Nat.le_refl _) _).alloc (by simp; omega) _⟩
 ·obtain ⟨b, A, n, c, hp0, hc, hb, h0, h1, hr, _⟩ := hq
  subst hp0
  have HR := Lib.hid hr
  have HC := Lib.hid hc
  have HL := Lib.hid hr.u64Len
  obtain ⟨⟨hc0, hc1⟩, hok2, hl⟩ := hok
  have HM := Lib.hid hok2
  have hn : n ≤ 100 := by rw [← HL.out]; exact hl
  clear hr hc hok2 hl ha
  go_enter Tryz.func44, Tryz.ntmps44
  go_wp2_with fail
  refine (q_names _).mono ?_
  rintro e wc ⟨rfl, rfl⟩
  go_wp2_with fail
  refine (q_contains _ _ (by simp) ⟨#[100, 114, 111, 112]⟩ (by simp)).mono ?_
  rintro e wc ⟨rfl, rfl⟩
  obtain ⟨W1, hW1⟩ : ∃ W1, (w.alloc (.cells #[.int .i64 0, .int .u64 0] 47)).alloc (.cells #[.string ⟨#[110, 101, 119]⟩, .string ⟨#[112, 117, 116]⟩, .string ⟨#[116, 97, 107, 101]⟩, .string ⟨#[112, 101, 101, 107]⟩, .string ⟨#[115, 105, 122, 101]⟩, .string ⟨#[100, 114, 111, 112]⟩] 9) = W1 := ⟨_, rfl⟩
  have HK : Hid (Bk W1 w.heap.size 47 #[.int .i64 0, .int .u64 0]) := by show Bk _ _ _ _; rw [← hW1]; exact (Bk.new w _ _).alloc _
  have HB : Hid (Below w.heap.size w W1) := by show Below _ _ _; rw [← hW1]; exact ((Below.refl _ _).alloc (Nat.le_refl _) _).alloc (by simp) _
  rw [hW1]
  clear hW1
  have kc0 := HK.out.cell 0
  have kc1 := HK.out.cell 1
  have kf := HK.out.lt
  have kg0 := HK.out.frozen 0
  have kg1 := HK.out.frozen 1
  have hsz := HB.out.size
  have q0 : W1.cell? ⟨b, 0, none⟩ = some (.int .u64 cap) := (HB.out.cell (p := ⟨b, 0, none⟩) hb).trans h0
  have q1 : W1.cell? ⟨b, 1, none⟩ = some (.slice A n c) := (HB.out.cell (p := ⟨b, 1, none⟩) hb).trans h1
  rcases Nat.eq_zero_or_pos n with h0n | hn0
  ·subst h0n
   have hl0 : l = [] := List.eq_nil_of_length_eq_zero HL.out
   subst hl0
   have hq' : qP 5 a (some (cap, [])) = none := by show qS 5 a cap [] = _; unfold qS; rw [if_neg (by omega), if_neg (by omega), if_pos ⟨rfl, rfl⟩]
   have HE := Lib.hid hq'
   clear hq'
   go_wp2
   refine bodyPost_ret (results_tc rfl _ _ w.heap.size 47 _ _ (by rfl) ((HK.out.set_ 0 _).set_ 1 _) Tryz.underlying47 rfl info_res) rfl ?_
   exact ⟨.pointer none, _, rfl, (by rw [HE.out]; exact rfl), ⟨_, rfl⟩, ⟨_, _, rfl⟩, ((HB.out.setCell (Nat.le_refl _) _).setCell (Nat.le_refl _) _)⟩
  ·skip
   obtain ⟨bA, oA, rfl, hbA, hcA⟩ := HR.out.at_ hn0
   obtain ⟨x0, l', rfl⟩ : ∃ x0 l', l = x0 :: l' := list_pos (HL.out.symm ▸ hn0)
   have h2 : w.cell? ⟨bA, oA, none⟩ = some (.int .u64 x0) := hcA 0 _ rfl
   clear hcA
   have q2 : W1.cell? ⟨bA, oA, none⟩ = some (.int .u64 x0) := (HB.out.cell (p := ⟨bA, oA, none⟩) hbA).trans h2
   have hnz : ¬ ((n : Int) = 0) := by omega
   have hnz2 : (0 : Int) < (n : Int) := by omega
   have hnz3 : ((n : Int) == 0) = false := beq_eq_false_iff_ne.2 hnz
   clear q2 h2 hbA
   have hq' : qP 5 a (some (cap, x0 :: l')) = some (cap, x0 :: l') := by show qS 5 a cap (x0 :: l') = _; unfold qS; rw [if_neg (by omega), if_neg (by omega), if_neg (by simp)]
   have HE := Lib.hid hq'
   clear hq'
   go_wp2
   refine bodyPost_ret (results_tc rfl _ _ w.heap.size 47 _ _ (by rfl) (((HK.out.set_ 0 _).set_ 1 _).alloc _) Tryz.underlying47 rfl info_res) rfl ?_
   exact ⟨.pointer (some ⟨b, 0, none⟩), _, rfl, (by rw [HE.out]; exact HQ.out.below (((HB.out.setCell (Nat.le_refl _) _).setCell (Nat.le_refl _) _).alloc (by simp; omega) _)), ⟨_, rfl⟩, ⟨_, _, rfl⟩, ((HB.out.setCell (Nat.le_refl _) _).setCell (Nat.le_refl _) _).alloc (by simp; omega) _⟩
end Go.Proofs.YtiiaingepbkikaaGreatDoor
