import Derived.Test.YtjggmimaolddkaaOrAR
namespace Go.Proofs.Ytjggmimaolddkaa
open Go.RowKit
set_option linter.unusedVariables false
set_option maxRecDepth 100000 in
set_option maxHeartbeats 2000000 in
theorem lstride_any (c : Cfg) (M : Array Value) (hM : CfgIn M c) (hR : c.Right) (w : World) : Calls Try.prog 35 #[.agg M] w fun e w' => e = .returned (.int .i64 c.stride) ∧ Below w.heap.size w w' := by
 have HE : Hid (c.stride = 8 + c.cap) := rfl
 have hb := hR.bounds.cap
 have hcap := fun W1 => lcap_any c M hM hR W1
 have hsz := hM.info
 obtain ⟨L, hL⟩ : ∃ L, c.cap = L := ⟨_, rfl⟩
 rw [hL] at HE hb hcap
 obtain ⟨hb1, hb2⟩ := hb
 have HB : Hid (Below w.heap.size w (w.alloc (.cells M 74))) := (Below.refl _ _).alloc (Nat.le_refl _) _
 have HK : Hid (Bk (w.alloc (.cells M 74)) w.heap.size 74 M) := Bk.new w _ _
 clear hM hR hL
 go_enter Try.func35, Try.ntmps35
 go_upto_region 1 with fail
 obtain ⟨W1, hW1⟩ : ∃ W1, w.alloc (.cells M 74) = W1 := ⟨_, rfl⟩
 rw [hW1] at HB HK ⊢
 clear hW1
 go_wp2_with (first
  | (refine wpList_load_row (by rfl) 74 (.tmp 1) (by rfl) w.heap.size (by rfl) 74 M (0, 0) _ HK.out Try.underlying74 (by rfl) hsz ?_)
  | (go_at_call 46
     refine (hcap _).mono ?_
     rintro e wn ⟨rfl, hbn⟩
     have HB := Lib.hid (HB.out.trans (hbn.mono HB.out.size))
     clear hbn))
 go_ret
 exact ⟨ret_int HE.out.symm, HB.out⟩
theorem lres_row {P : Program} {fn : Func} {p u : Tmp} {ty : TypeId} (h : fn.results = #[.cell p ty, .tmp u]) (tmps : Array Value) (w : World) (g : Nat) (t : TypeId) (cs : Array Value) (d : TypeDesc)
 (hp : tmps.getD p undef = .pointer (some ⟨g, 0, none⟩)) (hg : Bk w g t cs)
 (hu : P.underlying ty = some d) (hd : (match d with | .struct _ | .array _ _ => true | _ => false) = true) (hi : (P.info? ty).map (·.size) = some cs.size) :
 (results fn tmps).run P w = .ok (.tuple #[.agg cs, tmps.getD u undef]) w := by
 rw [results_cell_tmp h, hp]
 simp [asAddr, run_loadVar_row w g t ty cs _ d hg hu hd hi, Result.andThen]
theorem res_lmap {fn : Func} (hr : fn.results = #[.cell 2 74, .tmp 3]) (tmps : Array Value) (w : World) (g : Nat) (cs : Array Value) (h24 : cs.size = 24) (hp : tmps.getD 2 undef = .pointer (some ⟨g, 0, none⟩)) (hg : Bk w g 74 cs) :
 (results fn tmps).run Try.prog w = .ok (.tuple #[.agg cs, tmps.getD 3 undef]) w :=
 lres_row hr tmps w g _ cs _ hp hg Try.underlying74 rfl (by rw [h24]; exact info_lmap)
theorem lbelow_setRow {B g : Nat} {w0 w : World} (hb : Below B w0 w) (hBg : B ≤ g) (cs : Array Value) : Below B w0 (w.setRow g cs) :=
 ⟨hb.os, hb.tape, hb.output, by simpa using hb.size, fun k hk => (setRow_other w g k cs (by omega)).trans (hb.block k hk)⟩
theorem Bk.set_ne {w : World} {g k : Nat} {t : TypeId} {cs : Array Value} (h : Bk w k t cs) (hne : k ≠ g) (i : Nat) (v : Value) : Bk (w.setCell ⟨g, i, none⟩ v) k t cs := by
 unfold Bk at h ⊢
 simp only [World.setCell, Array.getElem?_modify]
 rw [if_neg (fun e => hne e.symm)]
 exact h
theorem Bk.setRow {w : World} {g : Nat} {t : TypeId} {cs : Array Value} (h : Bk w g t cs) (cs' : Array Value) : Bk (w.setRow g cs') g t cs' := setRow_heap w g cs cs' t (0, 0) h
theorem Bk.setRow_ne {w : World} {g k : Nat} {t : TypeId} {cs : Array Value} (h : Bk w k t cs) (hne : k ≠ g) (cs' : Array Value) : Bk (w.setRow g cs') k t cs := (setRow_other w g k cs' hne).trans h
def Cfg.mapK (c : Cfg) (k : Nat) : Array Value := #[.int .i64 c.T, .int .i64 c.B, .int .i64 c.W, .int .i64 c.F, .int .u64 c.fi, .int .u64 c.la, .int .i64 0, .int .i64 0, .int .i64 0, .int .i64 0, .int .i64 0, .int .i64 0, .int .i64 0, .int .i64 (if 1 ≤ k then c.fTag else 0), .int .i64 0, .int .i64 0, .int .i64 (if 2 ≤ k then c.fRoot else 0), .int .i64 (if 3 ≤ k then c.fLife else 0), .int .i64 (if 4 ≤ k then c.fTop else 0), .int .i64 (if 5 ≤ k then c.fStack else 0), .int .i64 (if 6 ≤ k then c.fLim else 0), .int .i64 (if 7 ≤ k then c.fLimbo else 0), .int .i64 (if 8 ≤ k then c.fWord else 0), .int .i64 0]
def Cfg.atK (c : Cfg) (k : Nat) : Int := [c.fTag, c.fRoot, c.fLife, c.fTop, c.fStack, c.fLim, c.fLimbo, c.fWord, c.size].getD k 0
def Cfg.mapC (c : Cfg) : Array Value := #[.int .i64 c.T, .int .i64 c.B, .int .i64 c.W, .int .i64 c.F, .int .u64 c.fi, .int .u64 c.la, .int .i64 0, .int .i64 0, .int .i64 0, .int .i64 0, .int .i64 0, .int .i64 0, .int .i64 0, .int .i64 c.fTag, .int .i64 0, .int .i64 0, .int .i64 c.fRoot, .int .i64 c.fLife, .int .i64 c.fTop, .int .i64 c.fStack, .int .i64 c.fLim, .int .i64 c.fLimbo, .int .i64 c.fWord, .int .i64 c.size]
def zeroC : Array Value := #[.int .i64 0, .int .i64 0, .int .i64 0, .int .i64 0, .int .u64 0, .int .u64 0, .int .i64 0, .int .i64 0, .int .i64 0, .int .i64 0, .int .i64 0, .int .i64 0, .int .i64 0, .int .i64 0, .int .i64 0, .int .i64 0, .int .i64 0, .int .i64 0, .int .i64 0, .int .i64 0, .int .i64 0, .int .i64 0, .int .i64 0, .int .i64 0]
def ofV (c : Cfg) : Value := .tuple #[.agg (if c.right then c.mapC else zeroC), .int .i64 (if c.right then 0 else 1)]
theorem zeroC_one : zeroC.all (·.oneCell') = true := by simp [zeroC, Value.oneCell']
theorem mapK_one (c : Cfg) (k : Nat) : (c.mapK k).all (·.oneCell') = true := by simp [Cfg.mapK, Value.oneCell']
theorem mapC_one (c : Cfg) : c.mapC.all (·.oneCell') = true := by simp [Cfg.mapC, Value.oneCell']
theorem cfgIn_mapK (c : Cfg) (k : Nat) : CfgIn (c.mapK k) c := ⟨rfl, rfl, rfl, rfl, rfl, rfl, rfl⟩
theorem cfgIn_mapC (c : Cfg) : CfgIn c.mapC c := ⟨rfl, rfl, rfl, rfl, rfl, rfl, rfl⟩
set_option maxRecDepth 100000 in
set_option maxHeartbeats 4000000 in
theorem lof_any (c : Cfg) (w : World) : Calls Try.prog 19 #[c.v] w fun e w' => e = .returned (ofV c) ∧ Below w.heap.size w w' := by
 have HRt : Hid (∀ W1, Calls Try.prog 34 #[.agg #[.int .i64 c.T, .int .i64 c.B, .int .i64 c.W, .int .i64 c.F, .int .u64 c.fi, .int .u64 c.la]] W1 fun e w' => e = .returned (.bool c.right) ∧ Below W1.heap.size W1 w') := fun W1 => lright_any c W1
 unfold Cfg.v
 go_enter Try.func19, Try.ntmps19
 go_upto_region 1 with fail
 obtain ⟨W1, hW1⟩ : ∃ W1, (w.alloc (.cells #[.int .i64 c.T, .int .i64 c.B, .int .i64 c.W, .int .i64 c.F, .int .u64 c.fi, .int .u64 c.la] 44)).alloc (.cells #[.int .i64 0, .int .i64 0, .int .i64 0, .int .i64 0, .int .u64 0, .int .u64 0, .int .i64 0, .int .i64 0, .int .i64 0, .int .i64 0, .int .i64 0, .int .i64 0, .int .i64 0, .int .i64 0, .int .i64 0, .int .i64 0, .int .i64 0, .int .i64 0, .int .i64 0, .int .i64 0, .int .i64 0, .int .i64 0, .int .i64 0, .int .i64 0] 74) = W1 := ⟨_, rfl⟩
 have HB : Hid (Below w.heap.size w W1) := by show Below _ _ _; rw [← hW1]; exact ((Below.refl _ _).alloc (Nat.le_refl _) _).alloc (by simp) _
 have HC : Hid (Bk W1 w.heap.size 44 #[.int .i64 c.T, .int .i64 c.B, .int .i64 c.W, .int .i64 c.F, .int .u64 c.fi, .int .u64 c.la]) := by show Bk _ _ _ _; rw [← hW1]; exact (Bk.new w _ _).alloc _
 have HZ : Hid (Bk W1 (w.heap.size + 1) 74 zeroC) := by
  show Bk _ _ _ _
  rw [← hW1]
  have := Bk.new (w.alloc (.cells #[.int .i64 c.T, .int .i64 c.B, .int .i64 c.W, .int .i64 c.F, .int .u64 c.fi, .int .u64 c.la] 44)) 74 zeroC
  rw [show (w.alloc (.cells #[.int .i64 c.T, .int .i64 c.B, .int .i64 c.W, .int .i64 c.F, .int .u64 c.fi, .int .u64 c.la] 44)).heap.size = w.heap.size + 1 by simp] at this
  exact this
 rw [hW1]
 clear hW1
 have j0 : W1.cell? ⟨w.heap.size, 0, none⟩ = some (.int .i64 c.T) := HC.out.cell 0
 have j1 : W1.cell? ⟨w.heap.size, 1, none⟩ = some (.int .i64 c.B) := HC.out.cell 1
 have j2 : W1.cell? ⟨w.heap.size, 2, none⟩ = some (.int .i64 c.W) := HC.out.cell 2
 have j3 : W1.cell? ⟨w.heap.size, 3, none⟩ = some (.int .i64 c.F) := HC.out.cell 3
 have j4 : W1.cell? ⟨w.heap.size, 4, none⟩ = some (.int .u64 c.fi) := HC.out.cell 4
 have j5 : W1.cell? ⟨w.heap.size, 5, none⟩ = some (.int .u64 c.la) := HC.out.cell 5
 by_cases hr : c.right = true
 case neg =>
  have hr2 : c.right = false := by simpa using hr
  have HV : Hid (ofV c = .tuple #[.agg zeroC, .int .i64 1]) := by show _ = _; unfold ofV; rw [hr2]; rfl
  rw [hr2] at HRt
  clear hr hr2
  go_wp2_with (first
   | (refine wpList_store_row (by rfl) 74 (.tmp 2) (.tmp 11) (by rfl) (w.heap.size + 1) zeroC (by rfl) (by rfl) 74 zeroC HZ.out info_lmap (by rfl) zeroC_one ?_)
   | (go_at_call 34
      refine (HRt.out _).mono ?_
      rintro e wn ⟨rfl, hbn⟩
      have HB := Lib.hid (HB.out.trans (hbn.mono HB.out.size))
      have HZ := Lib.hid (HZ.out.below hbn HZ.out.lt)
      clear hbn))
  refine bodyPost_ret (res_lmap rfl _ _ (w.heap.size + 1) zeroC (by rfl) (by rfl) (HZ.out.setRow _)) rfl ?_
  refine ⟨?_, lbelow_setRow HB.out (Nat.le_succ _) _⟩
  rw [HV.out]
  rfl
 have HR := Lib.hid ((Cfg.right_iff c).1 hr)
 have HV : Hid (ofV c = .tuple #[.agg c.mapC, .int .i64 0]) := by show _ = _; unfold ofV; rw [hr]; rfl
 rw [hr] at HRt
 clear hr
 go_upto_region 3 with (first
  | (go_at_call 34
     refine (HRt.out _).mono ?_
     rintro e wn ⟨rfl, hbn⟩
     have HB := Lib.hid (HB.out.trans (hbn.mono HB.out.size))
     have HZ := Lib.hid (HZ.out.below hbn HZ.out.lt)
     have HC := Lib.hid (HC.out.below hbn HC.out.lt)
     have HZl := Lib.hid HZ.out.lt
     clear hbn))
 have hb := HR.out.bounds
 have hT := HR.out.T
 have hB := HR.out.B
 have hstr := fun W1 => lstride_any c _ (cfgIn_mapK c 0) HR.out W1
 have hlim := fun W1 => llimit_any c _ (cfgIn_mapK c 0) HR.out W1
 obtain ⟨L, hL⟩ : ∃ L, c.lim = L := ⟨_, rfl⟩
 obtain ⟨ST, hST⟩ : ∃ ST, c.stride = ST := ⟨_, rfl⟩
 have b1 := hb.lim
 have b2 := hb.stride
 have b3 := hb.tag
 have b4 := hb.m3
 have b5 := hb.m8
 rw [hL] at b1 hlim
 rw [hST] at b2 hstr
 have bT : c.T * ST = c.fTag - 1 := by unfold Cfg.fTag; rw [hST]; omega
 have HE : Hid (c.fTag = 1 + c.T * ST ∧ c.fRoot = c.fTag + c.T * 3 ∧ c.fLife = c.fRoot + 16 ∧ c.fTop = c.fLife + c.B ∧ c.fStack = c.fTop + 1 ∧ c.fLim = c.fStack + c.B ∧ c.fLimbo = c.fLim + 1 ∧ c.fWord = c.fLimbo + L ∧ c.size = c.fWord + c.B * 8) := by
  rw [← hL, ← hST]; exact ⟨rfl, rfl, rfl, rfl, rfl, rfl, rfl, rfl, rfl⟩
 clear hb
 obtain ⟨b1, b1'⟩ := b1
 obtain ⟨b2, b2'⟩ := b2
 obtain ⟨b3, b3'⟩ := b3
 obtain ⟨b4, b4'⟩ := b4
 obtain ⟨b5, b5'⟩ := b5
 obtain ⟨hT1, hT2⟩ := hT
 obtain ⟨hB1, hB2⟩ := hB
 obtain ⟨Wn, hWn⟩ : ∃ Wn, wn = Wn := ⟨_, rfl⟩
 subst hWn
 have j0 : wn.cell? ⟨w.heap.size, 0, none⟩ = some (.int .i64 c.T) := HC.out.cell 0
 have j1 : wn.cell? ⟨w.heap.size, 1, none⟩ = some (.int .i64 c.B) := HC.out.cell 1
 have j2 : wn.cell? ⟨w.heap.size, 2, none⟩ = some (.int .i64 c.W) := HC.out.cell 2
 have j3 : wn.cell? ⟨w.heap.size, 3, none⟩ = some (.int .i64 c.F) := HC.out.cell 3
 have j4 : wn.cell? ⟨w.heap.size, 4, none⟩ = some (.int .u64 c.fi) := HC.out.cell 4
 have j5 : wn.cell? ⟨w.heap.size, 5, none⟩ = some (.int .u64 c.la) := HC.out.cell 5
 have HZn : Hid (Bk (wn.alloc (.cells zeroC 74)) wn.heap.size 74 zeroC) := Bk.new _ _ _
 go_upto_region 4 with (first
  | (refine wpList_store_row (by rfl) 74 (.tmp 4) (.tmp 13) (by rfl) wn.heap.size (c.mapK 0) (by rfl) (by rfl) 74 zeroC HZn.out info_lmap (by rfl) (mapK_one c 0) ?_))
 simp only [Act.put]
 obtain ⟨W3, hW3⟩ : ∃ W3, (wn.alloc (.cells zeroC 74)).setRow wn.heap.size (c.mapK 0) = W3 := ⟨_, rfl⟩
 have hg3 : Below wn.heap.size wn W3 := by rw [← hW3]; exact lbelow_setRow ((Below.refl _ _).alloc (Nat.le_refl _) _) (Nat.le_refl _) _
 have HM := Lib.hid (show Bk W3 wn.heap.size 74 (c.mapK 0) by rw [← hW3]; exact HZn.out.setRow _)
 have HB := Lib.hid (HB.out.trans (hg3.mono HB.out.size))
 have HZ := Lib.hid (HZ.out.below hg3 HZ.out.lt)
 have HCn := Lib.hid HC.out.lt
 have HC := Lib.hid (HC.out.below hg3 HC.out.lt)
 change Code.wp _ _ _ _ ((wn.alloc (.cells zeroC 74)).setRow wn.heap.size (c.mapK 0))
 rw [hW3]
 obtain ⟨g4, hg4⟩ : ∃ g4, wn.heap.size = g4 := ⟨_, rfl⟩
 rw [hg4] at HM ⊢
 have Hg4 : Hid (w.heap.size < g4 ∧ w.heap.size + 1 < g4 ) := by
  have := HZn
  show _ ∧ _
  rw [← hg4]; exact ⟨HCn.out, HZl.out⟩
 clear hW3 hg3 HZn j0 j1 j2 j3 j4 j5 hg4
 have j0 : W3.cell? ⟨w.heap.size, 0, none⟩ = some (.int .i64 c.T) := HC.out.cell 0
 have jr : W3.rangeAt g4 0 (c.mapK 0).toList := HM.out.rangeAt
 have eTS : IntKind.i64.wrap (c.T * ST) = c.T * ST := IntWalk.i64_in _ (by omega)
 have e1S : IntKind.i64.wrap (1 + c.T * ST) = c.fTag := by rw [show 1 + c.T * ST = c.fTag by omega]; exact IntWalk.i64_in _ (by omega)
 have eT3 : IntKind.i64.wrap (c.T * 3) = c.T * 3 := IntWalk.i64_in _ (by omega)
 have eB8 : IntKind.i64.wrap (c.B * 8) = c.B * 8 := IntWalk.i64_in _ (by omega)
 clear bT
 refine wp_region_held_drew (S := (fun w' => w'.cell? ⟨w.heap.size, 0, none⟩ = some (.int .i64 c.T) ∧ w'.rangeAt g4 0 (c.mapK 0).toList)) (by kernel_rfl) ?_ (fun hHeld => ?_)
 ·exact ⟨j0, jr⟩
 refine takeA 0 ?_
 try simp only [Act.put, pS]
 refine takeA 1 ?_
 try simp only [Act.put, pS]
 refine loadH 2 rfl rfl rfl (by kernel_rfl) (by kernel_rfl) (by kernel_rfl) (fun _ _ _ _ _ h => h) (by rfl) (by assumption) rfl (c.mapK 0) Try.underlying74 rfl info_lmap ?_ ?_
 ·(intro w hSw; (try dsimp only at hSw); go_split_ands; assumption)
 try simp only [Act.put, pS]
 refine comeH 3 rfl rfl rfl rfl (by kernel_rfl) (by rfl) (fun K hK => ?_)
 go_simp
 refine (hstr _).mono ?_
 rintro e w4 ⟨rfl, hbn⟩
 have HB := Lib.hid (HB.out.drew.trans (hbn.mono HB.out.size))
 have HM := Lib.hid (HM.out.drew.below hbn HM.out.drew.lt)
 have HC := Lib.hid (HC.out.drew.below hbn HC.out.drew.lt)
 have HZ := Lib.hid (HZ.out.drew.below hbn HZ.out.drew.lt)
 clear hbn
 go_simp
 refine hK.out _ _ ?_ (fun hHeld => ?_)
 ·exact ⟨HC.out.cell 0, HM.out.rangeAt⟩
 clear hK K
 try simp only [Act.put, pS]
 refine takeA 4 ?_
 try simp only [Act.put, pS]
 refine takeA 5 ?_
 try simp only [Act.put, pS]
 refine takeA 6 ?_
 try simp only [Act.put, pS]
 refine wpAnyH_done (by kernel_rfl) ?_ _
 try simp only [Act.put, pS]
 go_upto_region 5 with fail
 have j0 : w4.cell? ⟨w.heap.size, 0, none⟩ = some (.int .i64 c.T) := HC.out.cell 0
 have j1 : w4.cell? ⟨w.heap.size, 1, none⟩ = some (.int .i64 c.B) := HC.out.cell 1
 have jr : w4.rangeAt g4 0 (c.mapK 0).toList := HM.out.rangeAt
 refine wp_region_held_drew (S := (fun w' => w'.cell? ⟨w.heap.size, 0, none⟩ = some (.int .i64 c.T) ∧ w'.cell? ⟨w.heap.size, 1, none⟩ = some (.int .i64 c.B) ∧ w'.rangeAt g4 0 (c.mapK 0).toList)) (by kernel_rfl) ?_ (fun hHeld => ?_)
 ·exact ⟨j0, j1, jr⟩
 refine takeA 0 ?_
 try simp only [Act.put, pS]
 refine takeA 1 ?_
 try simp only [Act.put, pS]
 refine takeA 2 ?_
 try simp only [Act.put, pS]
 refine takeA 3 ?_
 try simp only [Act.put, pS]
 refine takeA 4 ?_
 try simp only [Act.put, pS]
 refine takeA 5 ?_
 try simp only [Act.put, pS]
 refine takeA 6 ?_
 try simp only [Act.put, pS]
 refine takeA 7 ?_
 try simp only [Act.put, pS]
 refine takeA 8 ?_
 try simp only [Act.put, pS]
 refine takeA 9 ?_
 try simp only [Act.put, pS]
 refine takeA 10 ?_
 try simp only [Act.put, pS]
 refine takeA 11 ?_
 try simp only [Act.put, pS]
 refine takeA 12 ?_
 try simp only [Act.put, pS]
 refine loadH 13 rfl rfl rfl (by kernel_rfl) (by kernel_rfl) (by kernel_rfl) (fun _ _ _ _ _ h => h) (by rfl) (by assumption) rfl (c.mapK 0) Try.underlying74 rfl info_lmap ?_ ?_
 ·(intro w hSw; (try dsimp only at hSw); go_split_ands; assumption)
 try simp only [Act.put, pS]
 refine takeA 16 ?_
 try simp only [Act.put, pS]
 refine takeA 17 ?_
 try simp only [Act.put, pS]
 refine takeA 18 ?_
 try simp only [Act.put, pS]
 refine takeA 19 ?_
 try simp only [Act.put, pS]
 refine takeA 22 ?_
 try simp only [Act.put, pS]
 refine comeH 14 rfl rfl rfl rfl (by kernel_rfl) (by rfl) (fun K hK => ?_)
 go_simp
 refine (hlim _).mono ?_
 rintro e w5 ⟨rfl, hbn⟩
 have HB := Lib.hid (HB.out.drew.trans (hbn.mono HB.out.size))
 have HM := Lib.hid (HM.out.drew.below hbn HM.out.drew.lt)
 have HC := Lib.hid (HC.out.drew.below hbn HC.out.drew.lt)
 have HZ := Lib.hid (HZ.out.drew.below hbn HZ.out.drew.lt)
 clear hbn
 go_simp
 refine hK.out _ _ ?_ (fun hHeld => ?_)
 ·exact ⟨HC.out.cell 0, HC.out.cell 1, HM.out.rangeAt⟩
 clear hK K
 try simp only [Act.put, pS]
 refine takeA 15 ?_
 try simp only [Act.put, pS]
 refine comeH 20 rfl rfl rfl rfl (by kernel_rfl) (by rfl) (fun K hK => ?_)
 go_simp
 obtain ⟨W6, hW6⟩ : ∃ W6, w5.alloc (.cells #[.int .i64 7, .int .i64 (c.T * 3), .int .i64 10, .int .i64 16, .int .i64 11, .int .i64 c.B, .int .i64 12, .int .i64 1, .int .i64 13, .int .i64 c.B, .int .i64 14, .int .i64 1, .int .i64 15, .int .i64 L, .int .i64 16, .int .i64 (c.B * 8)] 106) = W6 := ⟨_, rfl⟩
 have hb6 : Below w5.heap.size w5 W6 := by rw [← hW6]; exact (Below.refl _ _).alloc (Nat.le_refl _) _
 have HS := Lib.hid (show Bk W6 w5.heap.size 106 #[.int .i64 7, .int .i64 (c.T * 3), .int .i64 10, .int .i64 16, .int .i64 11, .int .i64 c.B, .int .i64 12, .int .i64 1, .int .i64 13, .int .i64 c.B, .int .i64 14, .int .i64 1, .int .i64 15, .int .i64 L, .int .i64 16, .int .i64 (c.B * 8)] by rw [← hW6]; exact Bk.new _ _ _)
 have HB := Lib.hid (HB.out.trans (hb6.mono HB.out.size))
 have HMl := Lib.hid HM.out.lt
 have HM := Lib.hid (HM.out.below hb6 HM.out.lt)
 have HC := Lib.hid (HC.out.below hb6 HC.out.lt)
 have HZ := Lib.hid (HZ.out.below hb6 HZ.out.lt)
 rw [hW6]
 have Hg6 := Lib.hid (show w5.heap.size ≠ g4 from Nat.ne_of_gt HMl.out)
 obtain ⟨g6, hg6⟩ : ∃ g6, w5.heap.size = g6 := ⟨_, rfl⟩
 rw [hg6] at HS HMl Hg6 ⊢
 clear hW6 hb6 hg6
 refine hK.out _ _ ?_ (fun hHeld => ?_)
 ·exact ⟨HC.out.cell 0, HC.out.cell 1, HM.out.rangeAt⟩
 clear hK K
 try simp only [Act.put, pS]
 refine takeA 21 ?_
 try simp only [Act.put, pS]
 refine wpAnyH_done (by kernel_rfl) ?_ _
 try simp only [Act.put, pS]
 have HL63 : Hid (0 ≤ L ∧ L ≤ 520) := ⟨by omega, b1'⟩
 have e0 : IntKind.i64.wrap (c.atK 0 + c.T * 3) = c.atK 1 := by have h := HE.out; show IntKind.i64.wrap (c.fTag + c.T * 3) = c.fRoot; rw [IntWalk.i64_in _ (by omega)]; omega
 have e1 : IntKind.i64.wrap (c.atK 1 + 16) = c.atK 2 := by have h := HE.out; show IntKind.i64.wrap (c.fRoot + 16) = c.fLife; rw [IntWalk.i64_in _ (by omega)]; omega
 have e2 : IntKind.i64.wrap (c.atK 2 + c.B) = c.atK 3 := by have h := HE.out; show IntKind.i64.wrap (c.fLife + c.B) = c.fTop; rw [IntWalk.i64_in _ (by omega)]; omega
 have e3 : IntKind.i64.wrap (c.atK 3 + 1) = c.atK 4 := by have h := HE.out; show IntKind.i64.wrap (c.fTop + 1) = c.fStack; rw [IntWalk.i64_in _ (by omega)]; omega
 have e4 : IntKind.i64.wrap (c.atK 4 + c.B) = c.atK 5 := by have h := HE.out; show IntKind.i64.wrap (c.fStack + c.B) = c.fLim; rw [IntWalk.i64_in _ (by omega)]; omega
 have e5 : IntKind.i64.wrap (c.atK 5 + 1) = c.atK 6 := by have h := HE.out; show IntKind.i64.wrap (c.fLim + 1) = c.fLimbo; rw [IntWalk.i64_in _ (by omega)]; omega
 have e6 : IntKind.i64.wrap (c.atK 6 + L) = c.atK 7 := by have h := HE.out; show IntKind.i64.wrap (c.fLimbo + L) = c.fWord; rw [IntWalk.i64_in _ (by omega)]; omega
 have e7 : IntKind.i64.wrap (c.atK 7 + c.B * 8) = c.atK 8 := by have h := HE.out; show IntKind.i64.wrap (c.fWord + c.B * 8) = c.size; rw [IntWalk.i64_in _ (by omega)]; omega
 change Exit.then _ _ _ { tmps := _, defers := _ } _
 go_wp2
 go_loopw [5, 42] (fun av i wr => ∃ k : Nat, (k ≤ 8 ∧ i = .int .i64 k ∧ av = .int .i64 (c.atK k)) ∧ Hid (Bk wr g4 74 (c.mapK k)) ∧ Hid (Bk wr g6 106 #[.int .i64 7, .int .i64 (c.T * 3), .int .i64 10, .int .i64 16, .int .i64 11, .int .i64 c.B, .int .i64 12, .int .i64 1, .int .i64 13, .int .i64 c.B, .int .i64 14, .int .i64 1, .int .i64 15, .int .i64 L, .int .i64 16, .int .i64 (c.B * 8)]) ∧ Hid (Bk wr (w.heap.size + 1) 74 zeroC) ∧ Hid (Below w.heap.size w wr)) (fun _ i _ => 8 - (intOf i).toNat)
 case atStart => exact ⟨0, ⟨by omega, rfl, rfl⟩, HM.out, HS.out, HZ.out, HB.out⟩
 case round =>
  obtain ⟨k, ⟨hk, rfl, rfl⟩, HM, HS, HZ, HB⟩ := hrel
  by_cases hlt : k < 8
  ·obtain rfl | rfl | rfl | rfl | rfl | rfl | rfl | rfl : k = 0 ∨ k = 1 ∨ k = 2 ∨ k = 3 ∨ k = 4 ∨ k = 5 ∨ k = 6 ∨ k = 7 := by omega
   ·have s0 : wr.cell? ⟨g6, 0, none⟩ = some (.int .i64 7) := HS.out.cell 0
    have s1 : wr.cell? ⟨g6, 1, none⟩ = some (.int .i64 (c.T * 3)) := HS.out.cell 1
    go_upto_region 8 with fail
    obtain ⟨W8, hW8⟩ : ∃ W8, wr.alloc (.cells #[.int .i64 7, .int .i64 (c.T * 3)] 106) = W8 := ⟨_, rfl⟩
    have HN := Lib.hid (show Bk W8 wr.heap.size 106 #[.int .i64 7, .int .i64 (c.T * 3)] by rw [← hW8]; exact Bk.new _ _ _)
    have hb8 : Below wr.heap.size wr W8 := by rw [← hW8]; exact (Below.refl _ _).alloc (Nat.le_refl _) _
    have hne : ¬ g4 = wr.heap.size := Nat.ne_of_lt HM.out.lt
    have HGl := Lib.hid HM.out.lt
    have HM := Lib.hid (HM.out.below hb8 HM.out.lt)
    have HS := Lib.hid (HS.out.below hb8 HS.out.lt)
    have HZ := Lib.hid (HZ.out.below hb8 HZ.out.lt)
    have HB := Lib.hid (HB.out.trans (hb8.mono HB.out.size))
    rw [hW8]
    obtain ⟨gk, hgk⟩ : ∃ gk, wr.heap.size = gk := ⟨_, rfl⟩
    rw [hgk] at HN hne ⊢
    have hne2 : ¬ gk = g4 := fun e => hne e.symm
    clear hW8 hb8 hgk s0 s1
    have s0 : W8.cell? ⟨gk, 0, none⟩ = some (.int .i64 7) := HN.out.cell 0
    have s1 : W8.cell? ⟨gk, 1, none⟩ = some (.int .i64 (c.T * 3)) := HN.out.cell 1
    have m0 : W8.cell? ⟨g4, 13, none⟩ = some (.int .i64 0) := HM.out.cell 13
    have m1 := HM.out.frozen 13
    go_wp2
    go_roundw
    case rel =>
     refine ⟨1, ⟨by omega, by go_num, rfl⟩, ?_, HS.out.set_ne Hg6.out _ _, HZ.out.set_ne (Nat.ne_of_lt Hg4.out.2) _ _, HB.out.setCell (Nat.le_of_lt Hg4.out.1) _⟩
     exact (HM.out.set_ 13 _)
    case measure => simp [intOf]
   ·have s0 : wr.cell? ⟨g6, 2, none⟩ = some (.int .i64 10) := HS.out.cell 2
    have s1 : wr.cell? ⟨g6, 3, none⟩ = some (.int .i64 (16)) := HS.out.cell 3
    go_upto_region 8 with fail
    obtain ⟨W8, hW8⟩ : ∃ W8, wr.alloc (.cells #[.int .i64 10, .int .i64 (16)] 106) = W8 := ⟨_, rfl⟩
    have HN := Lib.hid (show Bk W8 wr.heap.size 106 #[.int .i64 10, .int .i64 (16)] by rw [← hW8]; exact Bk.new _ _ _)
    have hb8 : Below wr.heap.size wr W8 := by rw [← hW8]; exact (Below.refl _ _).alloc (Nat.le_refl _) _
    have hne : ¬ g4 = wr.heap.size := Nat.ne_of_lt HM.out.lt
    have HGl := Lib.hid HM.out.lt
    have HM := Lib.hid (HM.out.below hb8 HM.out.lt)
    have HS := Lib.hid (HS.out.below hb8 HS.out.lt)
    have HZ := Lib.hid (HZ.out.below hb8 HZ.out.lt)
    have HB := Lib.hid (HB.out.trans (hb8.mono HB.out.size))
    rw [hW8]
    obtain ⟨gk, hgk⟩ : ∃ gk, wr.heap.size = gk := ⟨_, rfl⟩
    rw [hgk] at HN hne ⊢
    have hne2 : ¬ gk = g4 := fun e => hne e.symm
    clear hW8 hb8 hgk s0 s1
    have s0 : W8.cell? ⟨gk, 0, none⟩ = some (.int .i64 10) := HN.out.cell 0
    have s1 : W8.cell? ⟨gk, 1, none⟩ = some (.int .i64 (16)) := HN.out.cell 1
    have m0 : W8.cell? ⟨g4, 16, none⟩ = some (.int .i64 0) := HM.out.cell 16
    have m1 := HM.out.frozen 16
    go_wp2
    go_roundw
    case rel =>
     refine ⟨2, ⟨by omega, by go_num, rfl⟩, ?_, HS.out.set_ne Hg6.out _ _, HZ.out.set_ne (Nat.ne_of_lt Hg4.out.2) _ _, HB.out.setCell (Nat.le_of_lt Hg4.out.1) _⟩
     exact (HM.out.set_ 16 _)
    case measure => simp [intOf]
   ·have s0 : wr.cell? ⟨g6, 4, none⟩ = some (.int .i64 11) := HS.out.cell 4
    have s1 : wr.cell? ⟨g6, 5, none⟩ = some (.int .i64 (c.B)) := HS.out.cell 5
    go_upto_region 8 with fail
    obtain ⟨W8, hW8⟩ : ∃ W8, wr.alloc (.cells #[.int .i64 11, .int .i64 (c.B)] 106) = W8 := ⟨_, rfl⟩
    have HN := Lib.hid (show Bk W8 wr.heap.size 106 #[.int .i64 11, .int .i64 (c.B)] by rw [← hW8]; exact Bk.new _ _ _)
    have hb8 : Below wr.heap.size wr W8 := by rw [← hW8]; exact (Below.refl _ _).alloc (Nat.le_refl _) _
    have hne : ¬ g4 = wr.heap.size := Nat.ne_of_lt HM.out.lt
    have HGl := Lib.hid HM.out.lt
    have HM := Lib.hid (HM.out.below hb8 HM.out.lt)
    have HS := Lib.hid (HS.out.below hb8 HS.out.lt)
    have HZ := Lib.hid (HZ.out.below hb8 HZ.out.lt)
    have HB := Lib.hid (HB.out.trans (hb8.mono HB.out.size))
    rw [hW8]
    obtain ⟨gk, hgk⟩ : ∃ gk, wr.heap.size = gk := ⟨_, rfl⟩
    rw [hgk] at HN hne ⊢
    have hne2 : ¬ gk = g4 := fun e => hne e.symm
    clear hW8 hb8 hgk s0 s1
    have s0 : W8.cell? ⟨gk, 0, none⟩ = some (.int .i64 11) := HN.out.cell 0
    have s1 : W8.cell? ⟨gk, 1, none⟩ = some (.int .i64 (c.B)) := HN.out.cell 1
    have m0 : W8.cell? ⟨g4, 17, none⟩ = some (.int .i64 0) := HM.out.cell 17
    have m1 := HM.out.frozen 17
    go_wp2
    go_roundw
    case rel =>
     refine ⟨3, ⟨by omega, by go_num, rfl⟩, ?_, HS.out.set_ne Hg6.out _ _, HZ.out.set_ne (Nat.ne_of_lt Hg4.out.2) _ _, HB.out.setCell (Nat.le_of_lt Hg4.out.1) _⟩
     exact (HM.out.set_ 17 _)
    case measure => simp [intOf]
   ·have s0 : wr.cell? ⟨g6, 6, none⟩ = some (.int .i64 12) := HS.out.cell 6
    have s1 : wr.cell? ⟨g6, 7, none⟩ = some (.int .i64 (1)) := HS.out.cell 7
    go_upto_region 8 with fail
    obtain ⟨W8, hW8⟩ : ∃ W8, wr.alloc (.cells #[.int .i64 12, .int .i64 (1)] 106) = W8 := ⟨_, rfl⟩
    have HN := Lib.hid (show Bk W8 wr.heap.size 106 #[.int .i64 12, .int .i64 (1)] by rw [← hW8]; exact Bk.new _ _ _)
    have hb8 : Below wr.heap.size wr W8 := by rw [← hW8]; exact (Below.refl _ _).alloc (Nat.le_refl _) _
    have hne : ¬ g4 = wr.heap.size := Nat.ne_of_lt HM.out.lt
    have HGl := Lib.hid HM.out.lt
    have HM := Lib.hid (HM.out.below hb8 HM.out.lt)
    have HS := Lib.hid (HS.out.below hb8 HS.out.lt)
    have HZ := Lib.hid (HZ.out.below hb8 HZ.out.lt)
    have HB := Lib.hid (HB.out.trans (hb8.mono HB.out.size))
    rw [hW8]
    obtain ⟨gk, hgk⟩ : ∃ gk, wr.heap.size = gk := ⟨_, rfl⟩
    rw [hgk] at HN hne ⊢
    have hne2 : ¬ gk = g4 := fun e => hne e.symm
    clear hW8 hb8 hgk s0 s1
    have s0 : W8.cell? ⟨gk, 0, none⟩ = some (.int .i64 12) := HN.out.cell 0
    have s1 : W8.cell? ⟨gk, 1, none⟩ = some (.int .i64 (1)) := HN.out.cell 1
    have m0 : W8.cell? ⟨g4, 18, none⟩ = some (.int .i64 0) := HM.out.cell 18
    have m1 := HM.out.frozen 18
    go_wp2
    go_roundw
    case rel =>
     refine ⟨4, ⟨by omega, by go_num, rfl⟩, ?_, HS.out.set_ne Hg6.out _ _, HZ.out.set_ne (Nat.ne_of_lt Hg4.out.2) _ _, HB.out.setCell (Nat.le_of_lt Hg4.out.1) _⟩
     exact (HM.out.set_ 18 _)
    case measure => simp [intOf]
   ·have s0 : wr.cell? ⟨g6, 8, none⟩ = some (.int .i64 13) := HS.out.cell 8
    have s1 : wr.cell? ⟨g6, 9, none⟩ = some (.int .i64 (c.B)) := HS.out.cell 9
    go_upto_region 8 with fail
    obtain ⟨W8, hW8⟩ : ∃ W8, wr.alloc (.cells #[.int .i64 13, .int .i64 (c.B)] 106) = W8 := ⟨_, rfl⟩
    have HN := Lib.hid (show Bk W8 wr.heap.size 106 #[.int .i64 13, .int .i64 (c.B)] by rw [← hW8]; exact Bk.new _ _ _)
    have hb8 : Below wr.heap.size wr W8 := by rw [← hW8]; exact (Below.refl _ _).alloc (Nat.le_refl _) _
    have hne : ¬ g4 = wr.heap.size := Nat.ne_of_lt HM.out.lt
    have HGl := Lib.hid HM.out.lt
    have HM := Lib.hid (HM.out.below hb8 HM.out.lt)
    have HS := Lib.hid (HS.out.below hb8 HS.out.lt)
    have HZ := Lib.hid (HZ.out.below hb8 HZ.out.lt)
    have HB := Lib.hid (HB.out.trans (hb8.mono HB.out.size))
    rw [hW8]
    obtain ⟨gk, hgk⟩ : ∃ gk, wr.heap.size = gk := ⟨_, rfl⟩
    rw [hgk] at HN hne ⊢
    have hne2 : ¬ gk = g4 := fun e => hne e.symm
    clear hW8 hb8 hgk s0 s1
    have s0 : W8.cell? ⟨gk, 0, none⟩ = some (.int .i64 13) := HN.out.cell 0
    have s1 : W8.cell? ⟨gk, 1, none⟩ = some (.int .i64 (c.B)) := HN.out.cell 1
    have m0 : W8.cell? ⟨g4, 19, none⟩ = some (.int .i64 0) := HM.out.cell 19
    have m1 := HM.out.frozen 19
    go_wp2
    go_roundw
    case rel =>
     refine ⟨5, ⟨by omega, by go_num, rfl⟩, ?_, HS.out.set_ne Hg6.out _ _, HZ.out.set_ne (Nat.ne_of_lt Hg4.out.2) _ _, HB.out.setCell (Nat.le_of_lt Hg4.out.1) _⟩
     exact (HM.out.set_ 19 _)
    case measure => simp [intOf]
   ·have s0 : wr.cell? ⟨g6, 10, none⟩ = some (.int .i64 14) := HS.out.cell 10
    have s1 : wr.cell? ⟨g6, 11, none⟩ = some (.int .i64 (1)) := HS.out.cell 11
    go_upto_region 8 with fail
    obtain ⟨W8, hW8⟩ : ∃ W8, wr.alloc (.cells #[.int .i64 14, .int .i64 (1)] 106) = W8 := ⟨_, rfl⟩
    have HN := Lib.hid (show Bk W8 wr.heap.size 106 #[.int .i64 14, .int .i64 (1)] by rw [← hW8]; exact Bk.new _ _ _)
    have hb8 : Below wr.heap.size wr W8 := by rw [← hW8]; exact (Below.refl _ _).alloc (Nat.le_refl _) _
    have hne : ¬ g4 = wr.heap.size := Nat.ne_of_lt HM.out.lt
    have HGl := Lib.hid HM.out.lt
    have HM := Lib.hid (HM.out.below hb8 HM.out.lt)
    have HS := Lib.hid (HS.out.below hb8 HS.out.lt)
    have HZ := Lib.hid (HZ.out.below hb8 HZ.out.lt)
    have HB := Lib.hid (HB.out.trans (hb8.mono HB.out.size))
    rw [hW8]
    obtain ⟨gk, hgk⟩ : ∃ gk, wr.heap.size = gk := ⟨_, rfl⟩
    rw [hgk] at HN hne ⊢
    have hne2 : ¬ gk = g4 := fun e => hne e.symm
    clear hW8 hb8 hgk s0 s1
    have s0 : W8.cell? ⟨gk, 0, none⟩ = some (.int .i64 14) := HN.out.cell 0
    have s1 : W8.cell? ⟨gk, 1, none⟩ = some (.int .i64 (1)) := HN.out.cell 1
    have m0 : W8.cell? ⟨g4, 20, none⟩ = some (.int .i64 0) := HM.out.cell 20
    have m1 := HM.out.frozen 20
    go_wp2
    go_roundw
    case rel =>
     refine ⟨6, ⟨by omega, by go_num, rfl⟩, ?_, HS.out.set_ne Hg6.out _ _, HZ.out.set_ne (Nat.ne_of_lt Hg4.out.2) _ _, HB.out.setCell (Nat.le_of_lt Hg4.out.1) _⟩
     exact (HM.out.set_ 20 _)
    case measure => simp [intOf]
   ·have s0 : wr.cell? ⟨g6, 12, none⟩ = some (.int .i64 15) := HS.out.cell 12
    have s1 : wr.cell? ⟨g6, 13, none⟩ = some (.int .i64 (L)) := HS.out.cell 13
    go_upto_region 8 with fail
    obtain ⟨W8, hW8⟩ : ∃ W8, wr.alloc (.cells #[.int .i64 15, .int .i64 (L)] 106) = W8 := ⟨_, rfl⟩
    have HN := Lib.hid (show Bk W8 wr.heap.size 106 #[.int .i64 15, .int .i64 (L)] by rw [← hW8]; exact Bk.new _ _ _)
    have hb8 : Below wr.heap.size wr W8 := by rw [← hW8]; exact (Below.refl _ _).alloc (Nat.le_refl _) _
    have hne : ¬ g4 = wr.heap.size := Nat.ne_of_lt HM.out.lt
    have HGl := Lib.hid HM.out.lt
    have HM := Lib.hid (HM.out.below hb8 HM.out.lt)
    have HS := Lib.hid (HS.out.below hb8 HS.out.lt)
    have HZ := Lib.hid (HZ.out.below hb8 HZ.out.lt)
    have HB := Lib.hid (HB.out.trans (hb8.mono HB.out.size))
    rw [hW8]
    obtain ⟨gk, hgk⟩ : ∃ gk, wr.heap.size = gk := ⟨_, rfl⟩
    rw [hgk] at HN hne ⊢
    have hne2 : ¬ gk = g4 := fun e => hne e.symm
    clear hW8 hb8 hgk s0 s1
    have s0 : W8.cell? ⟨gk, 0, none⟩ = some (.int .i64 15) := HN.out.cell 0
    have s1 : W8.cell? ⟨gk, 1, none⟩ = some (.int .i64 (L)) := HN.out.cell 1
    have m0 : W8.cell? ⟨g4, 21, none⟩ = some (.int .i64 0) := HM.out.cell 21
    have m1 := HM.out.frozen 21
    go_wp2
    go_roundw
    case rel =>
     refine ⟨7, ⟨by omega, by go_num, rfl⟩, ?_, HS.out.set_ne Hg6.out _ _, HZ.out.set_ne (Nat.ne_of_lt Hg4.out.2) _ _, HB.out.setCell (Nat.le_of_lt Hg4.out.1) _⟩
     exact (HM.out.set_ 21 _)
    case measure => simp [intOf]
   ·have s0 : wr.cell? ⟨g6, 14, none⟩ = some (.int .i64 16) := HS.out.cell 14
    have s1 : wr.cell? ⟨g6, 15, none⟩ = some (.int .i64 (c.B * 8)) := HS.out.cell 15
    go_upto_region 8 with fail
    obtain ⟨W8, hW8⟩ : ∃ W8, wr.alloc (.cells #[.int .i64 16, .int .i64 (c.B * 8)] 106) = W8 := ⟨_, rfl⟩
    have HN := Lib.hid (show Bk W8 wr.heap.size 106 #[.int .i64 16, .int .i64 (c.B * 8)] by rw [← hW8]; exact Bk.new _ _ _)
    have hb8 : Below wr.heap.size wr W8 := by rw [← hW8]; exact (Below.refl _ _).alloc (Nat.le_refl _) _
    have hne : ¬ g4 = wr.heap.size := Nat.ne_of_lt HM.out.lt
    have HGl := Lib.hid HM.out.lt
    have HM := Lib.hid (HM.out.below hb8 HM.out.lt)
    have HS := Lib.hid (HS.out.below hb8 HS.out.lt)
    have HZ := Lib.hid (HZ.out.below hb8 HZ.out.lt)
    have HB := Lib.hid (HB.out.trans (hb8.mono HB.out.size))
    rw [hW8]
    obtain ⟨gk, hgk⟩ : ∃ gk, wr.heap.size = gk := ⟨_, rfl⟩
    rw [hgk] at HN hne ⊢
    have hne2 : ¬ gk = g4 := fun e => hne e.symm
    clear hW8 hb8 hgk s0 s1
    have s0 : W8.cell? ⟨gk, 0, none⟩ = some (.int .i64 16) := HN.out.cell 0
    have s1 : W8.cell? ⟨gk, 1, none⟩ = some (.int .i64 (c.B * 8)) := HN.out.cell 1
    have m0 : W8.cell? ⟨g4, 22, none⟩ = some (.int .i64 0) := HM.out.cell 22
    have m1 := HM.out.frozen 22
    go_wp2
    go_roundw
    case rel =>
     refine ⟨8, ⟨by omega, by go_num, rfl⟩, ?_, HS.out.set_ne Hg6.out _ _, HZ.out.set_ne (Nat.ne_of_lt Hg4.out.2) _ _, HB.out.setCell (Nat.le_of_lt Hg4.out.1) _⟩
     exact (HM.out.set_ 22 _)
    case measure => simp [intOf]
  ·obtain rfl : k = 8 := by omega
   have m0 : wr.cell? ⟨g4, 23, none⟩ = some (.int .i64 0) := HM.out.cell 23
   have m1 := HM.out.frozen 23
   have HM2 : Hid (Bk (wr.setCell ⟨g4, 23, none⟩ (.int .i64 (c.atK 8))) g4 74 c.mapC) := HM.out.set_ 23 _
   have HZ2 := Lib.hid (HZ.out.set_ne (Nat.ne_of_lt Hg4.out.2) 23 (.int .i64 (c.atK 8)))
   have HB2 := Lib.hid (HB.out.setCell (p := ⟨g4, 23, none⟩) (Nat.le_of_lt Hg4.out.1) (.int .i64 (c.atK 8)))
   go_wp2_with (first
    | (refine wpList_load_row (by rfl) 74 (.tmp 4) (by rfl) g4 (by rfl) 74 c.mapC (0, 0) _ HM2.out Try.underlying74 (by rfl) info_lmap ?_)
    | (refine wpList_store_row (by rfl) 74 (.tmp 2) (.tmp 59) (by rfl) (w.heap.size + 1) c.mapC (by rfl) (by rfl) 74 zeroC HZ2.out info_lmap (by rfl) (mapC_one c) ?_))
   refine bodyPost_ret (res_lmap rfl _ _ (w.heap.size + 1) c.mapC (by rfl) (by rfl) (HZ2.out.setRow _)) rfl ?_
   refine ⟨?_, lbelow_setRow HB2.out (Nat.le_succ _) _⟩
   rw [HV.out]
   rfl
end Go.Proofs.Ytjggmimaolddkaa
