import Derived.Test.YtjggmimaolddkaaOrAI
import Derived.Test.YtjggmimaolddkaaShelf
import Derived.Deep.RegionHeld3
import Derived.Test.YtjggmimaolddkaaOrAD
namespace Go.Proofs.Ytjggmimaolddkaa
open Go.RowKit Go.Maps
set_option linter.unusedVariables false
theorem StIn.more {w w' : World} {B n sb mb : Nat} {s : MSt} (h : StIn w B n sb mb s) (hg : w.grownBy w' none) : StIn w' B n sb mb s :=
 ⟨Bk.grown h.st hg (by simp), h.map.kept hg (by simp), h.roots, h.bs, h.bm⟩
theorem StIn.rangeAt {w : World} {B n sb mb : Nat} {s : MSt} (h : StIn w B n sb mb s) : w.rangeAt sb 0 (u64s s.roots) := by
 intro j v hv
 rw [u64s, List.getElem?_map] at hv
 obtain ⟨z, hz, rfl⟩ := Option.map_eq_some_iff.1 hv
 have hj : j < s.roots.length := (List.getElem?_eq_some_iff.1 hz).1
 rw [Nat.zero_add, h.st.root hj, List.getD_eq_getElem?_getD, hz]; rfl
theorem clone_map (mb n : Nat) (f : Int → Option (List Int)) (w : World) (h : OwnB w Try.prog 31 mb n f) :
 Calls Try.prog 51 #[.map (some mb)] w fun e w' => e = .returned (.map (some w.heap.size)) ∧ OwnB w' Try.prog 31 w.heap.size n f ∧ Below w.heap.size w w' := by
 obtain ⟨D, h, hv⟩ := h
 have hcon := AnyW.maps_Clone_owns Try.cloneB 31 blkR mb n D w h
 change Calls Try.prog 51 _ _ _ at hcon
 exact hcon.mono fun e w' ⟨he, h1, _, hb⟩ => ⟨he, ⟨D, h1, hv⟩, hb⟩
def ClonePost (n : Nat) (s : MSt) (w : World) (e : Ending) (w' : World) : Prop := ∃ sb mb, e = .returned (.pointer (some ⟨sb, 0, none⟩)) ∧ StIn w' w.heap.size n sb mb s ∧ Below w.heap.size w w'
set_option maxRecDepth 100000 in
set_option maxHeartbeats 4000000 in
theorem mclone_any (B n sb mb : Nat) (s : MSt) (w : World) (h : StIn w B n sb mb s) :
 Calls Try.prog 39 #[.pointer (some ⟨sb, 0, none⟩)] w (ClonePost n s w) := by
 have HS := Lib.hid h
 obtain ⟨z0, z1, z2, z3, z4, z5, z6, z7, z8, z9, z10, z11, z12, z13, z14, z15, hz⟩ := sixteen h.roots
 have d0 : w.rangeAt sb 0 (u64s [z0, z1, z2, z3, z4, z5, z6, z7, z8, z9, z10, z11, z12, z13, z14, z15]) := by rw [← hz]; exact h.rangeAt
 have d1 := h.st.map h.roots
 have e0 : w.drew.rangeAt sb 0 (u64s [z0, z1, z2, z3, z4, z5, z6, z7, z8, z9, z10, z11, z12, z13, z14, z15]) := d0
 have e1 : w.drew.cell? ⟨sb, 16, none⟩ = some (.map (some mb)) := d1
 have HZ := Lib.hid hz
 have hcs : (Try.prog.info? 50).map (·.size) = some (u64s [z0, z1, z2, z3, z4, z5, z6, z7, z8, z9, z10, z11, z12, z13, z14, z15]).length := by kernel_rfl
 have hu52 := Try.underlying50
 have HSd : Hid (StIn w.drew B n sb mb s) := h.more (grown_drew _ _)
 have HBd : Hid (Below w.heap.size w w.drew) := (Below.refl _ _).drew
 have hzd : w.heap.size ≤ w.drew.heap.size := Nat.le_refl _
 clear h hz
 go_enter Try.func39, Try.ntmps39
 go_wp2_with fail
 go_region_held3 (fun w' => w'.rangeAt sb 0 (u64s [z0, z1, z2, z3, z4, z5, z6, z7, z8, z9, z10, z11, z12, z13, z14, z15]) ∧ w'.cell? ⟨sb, 16, none⟩ = some (.map (some mb)))
  (first | exact ⟨e0, e1⟩ | exact ⟨d0, d1⟩ | exact ⟨fun j v hv => (World.cell?_alloc_old _ _ _ (Nat.ne_of_lt (World.block_lt_of_cell? _ _ (e0 j v hv)))).trans (e0 j v hv), (World.cell?_alloc_old _ _ _ (Nat.ne_of_lt (World.block_lt_of_cell? _ _ e1))).trans e1⟩ | go_keep)
  (first
    | (go_at_call 51
       refine (clone_map mb n s.blocks _ HSd.out.map).mono ?_
       rintro e wn ⟨rfl, hon, hbn⟩
       have HOn := Lib.hid hon
       have HSd := Lib.hid (HSd.out.more ⟨hbn.os, hbn.tape, hbn.output, hbn.size, fun k hk _ => hbn.block k hk⟩)
       have HBd := Lib.hid (HBd.out.trans (hbn.mono hzd))
       have e0 : wn.rangeAt sb 0 (u64s [z0, z1, z2, z3, z4, z5, z6, z7, z8, z9, z10, z11, z12, z13, z14, z15]) := by rw [← HZ.out]; exact HSd.out.rangeAt
       have e1 : wn.cell? ⟨sb, 16, none⟩ = some (.map (some mb)) := HSd.out.st.map HSd.out.roots
       clear hbn hon))
 all_goals
  go_wp2
  go_ret
  have hbs := HBd.out.size
  refine ⟨wn.heap.size, w.heap.size, rfl, ⟨?_, HOn.out.alloc _, HS.out.roots, hbs, Nat.le_refl _⟩, HBd.out.alloc hbs _⟩
  show Bk _ _ _ _
  rw [stCells, HZ.out]
  exact Bk.new _ _ _
end Go.Proofs.Ytjggmimaolddkaa
namespace Go.Proofs.Ytjggmimaolddkaa
open Go.RowKit
set_option linter.unusedVariables false
def nextP (i : Ins) (k : Nat) : List Int := if endsB i.op then [] else if i.op = 17 then [i.imm] else if i.op = 18 ∨ i.op = 19 then [(k : Int) + 1, i.imm] else [(k : Int) + 1]
def ints (l : List Int) : List Value := l.map (Value.int .i64)
end Go.Proofs.Ytjggmimaolddkaa
namespace Go.Proofs.Ytjggmimaolddkaa
open Go.RowKit
set_option linter.unusedVariables false
end Go.Proofs.Ytjggmimaolddkaa
namespace Go.Proofs.Ytjggmimaolddkaa
open Go.RowKit
set_option linter.unusedVariables false
inductive Reaches (l : List Ins) : Nat → Prop
 | start : Reaches l 0
 | step {k j : Nat} {i : Ins} : Reaches l k → l[k]? = some i → (j : Int) ∈ nextP i k → Reaches l j
def Closed (l : List Ins) (M : List Bool) : Prop := ∀ (k j : Nat) (i : Ins), M[k]? = some true → l[k]? = some i → (j : Int) ∈ nextP i k → M[j]? = some true
def Sound (l : List Ins) (M : List Bool) : Prop := ∀ k : Nat, M[k]? = some true → Reaches l k
structure Marks (l : List Ins) (M : List Bool) : Prop where
 len : M.length = l.length
 start : M[0]? = some true
 closed : Closed l M
 sound : Sound l M
theorem right_parts {l : List Ins} (h : rightP l = true) : 0 < l.length ∧ l.length ≤ 256 ∧ (∀ k, k < l.length → oneAt l k = 0) ∧ lastEnds l = true := by
 simp only [rightP, decide_eq_true_eq] at h
 unfold faultP at h
 split at h
 ·simp at h
 rename_i h0
 split at h
 ·simp at h
 rename_i h1
 split at h
 ·rename_i k hk
  have := List.find?_some hk
  simp at this
  exact absurd h this
 ·rename_i hf
  rw [List.find?_eq_none] at hf
  refine ⟨by omega, by omega, fun k hk => ?_, ?_⟩
  ·have := hf k (List.mem_range.2 hk)
   simpa using this
  ·split at h
   ·rename_i he; exact he
   ·simp at h
theorem oneE_zero {n k : Nat} {i : Ins} (h : oneE n k i = 0) : i.plain = true ∧ ((i.op = 17 ∨ i.op = 18) → (k : Int) < i.imm ∧ i.imm < n) ∧ (i.op = 19 → i.imm ≤ k) := by
 unfold oneE at h
 split at h
 ·omega
 rename_i hp
 refine ⟨by simpa using hp, fun ho => ?_, fun ho => ?_⟩
 ·rcases ho with ho | ho <;> · rw [ho] at h; simp at h; omega
 ·rw [ho] at h; simp at h; omega
theorem right_next {l : List Ins} (h : rightP l = true) {k : Nat} {i : Ins} (hi : l[k]? = some i) (h0 : 0 ≤ i.imm) {x : Int} (hx : x ∈ nextP i k) : ∃ j : Nat, x = j ∧ j < l.length := by
 obtain ⟨hn, h256, hall, hlast⟩ := right_parts h
 have hk : k < l.length := (List.getElem?_eq_some_iff.1 hi).1
 have ho := hall k hk
 rw [oneAt, hi] at ho
 obtain ⟨hp, h1, h2⟩ := oneE_zero ho
 have hk1 : endsB i.op = false → k + 1 < l.length := by
  intro he
  rcases Nat.lt_or_ge (k + 1) l.length with h | h
  ·exact h
  ·have : k = l.length - 1 := by omega
   rw [lastEnds, ← this, hi] at hlast
   simp only at hlast
   rw [he] at hlast; simp at hlast
 unfold nextP at hx
 cases he : endsB i.op
 ·have hk2 := hk1 he
  rw [he] at hx
  simp only [Bool.false_eq_true, if_false] at hx
  split at hx
  ·rename_i ho
   simp at hx
   subst hx
   have := h1 (.inl ho)
   exact ⟨i.imm.toNat, by omega, by omega⟩
  ·split at hx
   ·rename_i ho
    simp at hx
    rcases hx with hx | hx
    ·exact ⟨k + 1, by omega, hk2⟩
    ·subst hx
     refine ⟨i.imm.toNat, by omega, ?_⟩
     rcases ho with ho | ho
     ·have := h1 (.inr ho); omega
     ·have := h2 ho; omega
   ·simp at hx
    exact ⟨k + 1, by omega, hk2⟩
 ·rw [he] at hx; simp at hx
end Go.Proofs.Ytjggmimaolddkaa
namespace Go.Proofs.Ytjggmimaolddkaa
open Go.RowKit
set_option linter.unusedVariables false
theorem writesOf_nn (op : Int) : 0 ≤ writesOf op := by
 unfold writesOf
 split
 ·decide
 split
 ·decide
 split <;> decide
structure Doing (maxw : Int) (f : Int → Int × MRun) (r : MRun) : Prop where
 steps : (f maxw).2.steps = r.steps
 code : (f maxw).2.code = r.code
 err : (f maxw).1 = 0 ∨ (f maxw).1 = 40 ∨ (f maxw).1 = 42 ∨ (f maxw).1 = 43 ∨ (f maxw).1 = 44
 writes : r.writes ≤ (f maxw).2.writes
 cap : (f maxw).2.writes = r.writes ∨ (f maxw).2.writes ≤ maxw
 nine : (f maxw).2.writes ≤ r.writes + 9
 news : ∃ l, l.length ≤ 1 ∧ (f maxw).2.news = r.news ++ l ∧ r.pick = l ++ (f maxw).2.pick
 words : ∀ m, (f maxw).1 ≠ 42 → (f maxw).2.writes ≤ m → f m = f maxw
def Stays (maxw : Int) (f : Int → Int × MRun) (r : MRun) : Prop := (f maxw).2.pc = r.pc ∧ (f maxw).2.ended = r.ended
theorem doing_refl {maxw : Int} {r r' : MRun} {e : Int} (hs : r'.steps = r.steps) (hc : r'.code = r.code) (he : e = 0 ∨ e = 40 ∨ e = 42 ∨ e = 43 ∨ e = 44) (hw : r'.writes = r.writes) (hn : r'.news = r.news) (hp : r'.pick = r.pick) : Doing maxw (fun _ => (e, r')) r :=
 ⟨hs, hc, he, Int.le_of_eq hw.symm, .inl hw, by show r'.writes ≤ _; omega, ⟨[], by simp, by simp [hn], by simp [hp]⟩, fun _ _ _ => rfl⟩
theorem doing_pay {maxw op : Int} {r : MRun} (g : MRun → Int × MRun) (hg : ∀ r', r' = { r with writes := r.writes + writesOf op } →
 (g r').2.steps = r.steps ∧ (g r').2.code = r.code ∧ ((g r').1 = 0 ∨ (g r').1 = 40 ∨ (g r').1 = 42 ∨ (g r').1 = 43 ∨ (g r').1 = 44) ∧ (g r').2.writes = r'.writes ∧ (∃ l, l.length ≤ 1 ∧ (g r').2.news = r.news ++ l ∧ r.pick = l ++ (g r').2.pick) ∧ (g r').2.pc = r.pc ∧ (g r').2.ended = r.ended) :
 Doing maxw (fun m => match payP m op r with | none => (42, r) | some r' => g r') r ∧ Stays maxw (fun m => match payP m op r with | none => (42, r) | some r' => g r') r := by
 have h0 := writesOf_bd op
 by_cases h : maxw - r.writes < writesOf op
 ·have hp : payP maxw op r = none := by rw [payP, if_pos h]
  refine ⟨?_, ?_⟩
  ·constructor <;> simp only [hp] <;> first | (simp; done) | (simp; omega) | (refine ⟨[], ?_⟩; simp) | omega
  ·constructor <;> simp only [hp]
 ·have hp : payP maxw op r = some { r with writes := r.writes + writesOf op } := by rw [payP, if_neg h]
  obtain ⟨g1, g2, g3, g4, g5, g6, g7⟩ := hg _ rfl
  refine ⟨?_, by constructor <;> simp only [hp] <;> assumption⟩
  constructor <;> simp only [hp]
  ·exact g1
  ·exact g2
  ·exact g3
  ·rw [g4]; show r.writes ≤ r.writes + writesOf op; omega
  ·rw [g4]; right; show r.writes + writesOf op ≤ maxw; omega
  ·rw [g4]; show r.writes + writesOf op ≤ r.writes + 9; omega
  ·exact g5
  ·intro m _ hw
   rw [g4] at hw
   have hw : r.writes + writesOf op ≤ m := hw
   have : payP m op r = some { r with writes := r.writes + writesOf op } := by rw [payP, if_neg (by omega)]
   rw [this]
theorem root_doing (maxw : Int) (i : Ins) (r : MRun) : Doing maxw (fun m => rootP m i r) r ∧ Stays maxw (fun m => rootP m i r) r := by
 unfold rootP
 by_cases h1 : 16 ≤ r.reg i.b
 ·simp only [if_pos h1]; exact ⟨doing_refl rfl rfl (by simp) rfl rfl rfl, rfl, rfl⟩
 simp only [if_neg h1]
 by_cases h2 : i.op = 9
 ·simp only [if_pos h2]; exact ⟨doing_refl rfl rfl (by simp) rfl rfl rfl, rfl, rfl⟩
 simp only [if_neg h2]
 refine doing_pay (fun r' => (0, { r' with st := { r.st with roots := r.st.roots.set (r.reg i.b).toNat (r.reg i.a) } })) ?_
 rintro r' rfl
 exact ⟨rfl, rfl, .inl rfl, rfl, ⟨[], by simp, by simp, by simp⟩, rfl, rfl⟩
theorem word_doing (maxw : Int) (i : Ins) (r : MRun) : Doing maxw (fun m => wordP m i r) r ∧ Stays maxw (fun m => wordP m i r) r := by
 unfold wordP
 cases hb : r.st.blocks (r.reg i.b) with
 | none => exact ⟨doing_refl rfl rfl (by simp) rfl rfl rfl, rfl, rfl⟩
 | some ws =>
   simp only
   by_cases h1 : 8 ≤ wordAt i r
   ·simp only [if_pos h1]; exact ⟨doing_refl rfl rfl (by simp) rfl rfl rfl, rfl, rfl⟩
   simp only [if_neg h1]
   by_cases h2 : i.op = 11 ∨ i.op = 12
   ·simp only [if_pos h2]; exact ⟨doing_refl rfl rfl (by simp) rfl rfl rfl, rfl, rfl⟩
   simp only [if_neg h2]
   refine doing_pay (fun r' => (0, { r' with st := { r.st with blocks := upd r.st.blocks (r.reg i.b) (some (ws.set (wordAt i r).toNat (r.reg i.a))) } })) ?_
   rintro r' rfl
   exact ⟨rfl, rfl, .inl rfl, rfl, ⟨[], by simp, by simp, by simp⟩, rfl, rfl⟩
theorem fresh_doing (maxw : Int) (i : Ins) (r : MRun) : Doing maxw (fun m => freshP m i r) r ∧ Stays maxw (fun m => freshP m i r) r := by
 unfold freshP
 refine doing_pay (fun r' => match r.pick with
  | [] => (43, r')
  | h :: rest => if (r.st.blocks h).isSome ∨ h = 0 ∨ 64 < h then (43, r')
    else (0, { r' with pick := rest, st := { r.st with blocks := upd r.st.blocks h (some zero8) }, news := r.news ++ [h], regs := r.regs.set i.a.toNat h })) ?_
 rintro r' rfl
 simp only
 cases hp : r.pick with
 | nil => exact ⟨rfl, rfl, by simp, rfl, ⟨[], by simp, by simp, by simp⟩, rfl, rfl⟩
 | cons h rest =>
   simp only
   by_cases h1 : (r.st.blocks h).isSome ∨ h = 0 ∨ 64 < h
   ·rw [if_pos h1]; exact ⟨rfl, rfl, by simp, rfl, ⟨[], by simp, by simp, by simp⟩, rfl, rfl⟩
   ·rw [if_neg h1]; exact ⟨rfl, rfl, .inl rfl, rfl, ⟨[h], by simp, by simp, by simp⟩, rfl, rfl⟩
theorem free_doing (maxw : Int) (i : Ins) (r : MRun) : Doing maxw (fun m => freeP m i r) r ∧ Stays maxw (fun m => freeP m i r) r := by
 unfold freeP
 cases hb : r.st.blocks (r.reg i.a) with
 | none => exact ⟨doing_refl rfl rfl (by simp) rfl rfl rfl, rfl, rfl⟩
 | some ws =>
   simp only
   refine doing_pay (fun r' => (0, { r' with st := { r.st with blocks := upd r.st.blocks (r.reg i.a) none } })) ?_
   rintro r' rfl
   exact ⟨rfl, rfl, .inl rfl, rfl, ⟨[], by simp, by simp, by simp⟩, rfl, rfl⟩
theorem do_doing (args : List Int) (maxw : Int) (i : Ins) (r : MRun) : Doing maxw (fun m => doP args m i r) r := by
 unfold doP
 by_cases h17 : i.op = 17
 ·simp only [if_pos h17]; exact doing_refl rfl rfl (by simp) rfl rfl rfl
 by_cases h18 : i.op = 18
 ·simp only [if_neg h17, if_pos h18]; split <;> exact doing_refl rfl rfl (by simp) rfl rfl rfl
 by_cases h19 : i.op = 19
 ·simp only [if_neg h17, if_neg h18, if_pos h19]; split <;> exact doing_refl rfl rfl (by simp) rfl rfl rfl
 by_cases h20 : i.op = 20
 ·simp only [if_neg h17, if_neg h18, if_neg h19, if_pos h20]; exact doing_refl rfl rfl (by simp) rfl rfl rfl
 by_cases h21 : i.op = 21
 ·simp only [if_neg h17, if_neg h18, if_neg h19, if_neg h20, if_pos h21]; exact doing_refl rfl rfl (by simp) rfl rfl rfl
 by_cases h9 : i.op = 9 ∨ i.op = 10
 ·simp only [if_neg h17, if_neg h18, if_neg h19, if_neg h20, if_neg h21, if_pos h9]; exact (root_doing maxw i r).1
 by_cases h11 : i.op = 11 ∨ i.op = 12 ∨ i.op = 13 ∨ i.op = 14
 ·simp only [if_neg h17, if_neg h18, if_neg h19, if_neg h20, if_neg h21, if_neg h9, if_pos h11]; exact (word_doing maxw i r).1
 by_cases h15 : i.op = 15
 ·simp only [if_neg h17, if_neg h18, if_neg h19, if_neg h20, if_neg h21, if_neg h9, if_neg h11, if_pos h15]; exact (fresh_doing maxw i r).1
 by_cases h16 : i.op = 16
 ·simp only [if_neg h17, if_neg h18, if_neg h19, if_neg h20, if_neg h21, if_neg h9, if_neg h11, if_neg h15, if_pos h16]; exact (free_doing maxw i r).1
 simp only [if_neg h17, if_neg h18, if_neg h19, if_neg h20, if_neg h21, if_neg h9, if_neg h11, if_neg h15, if_neg h16]
 exact doing_refl rfl rfl (by simp) rfl rfl rfl
theorem step_doing (args : List Int) (maxw : Int) (i : Ins) (r : MRun) : Doing maxw (fun m => stepP args m i r) r := by
 obtain ⟨h1, h2, h3, h4, h5, h6, h7, h8⟩ := do_doing args maxw i { r with pc := r.pc + 1 }
 exact ⟨h1, h2, h3, h4, h5, h6, h7, h8⟩
abbrev atP (l : List Ins) (args : List Int) (maxw : Int) (r : MRun) : Int × MRun := stepP args maxw (l.getD r.pc.toNat noIns) { r with steps := r.steps + 1 }
theorem goP_err {l : List Ins} {args : List Int} {maxw : Int} {n : Nat} {r : MRun} (h : (atP l args maxw r).1 ≠ 0) : goP l args maxw (n + 1) r = { (atP l args maxw r).2 with code := (atP l args maxw r).1 } := by
 rw [goP]
 simp only [ne_eq]
 rw [if_pos h]
theorem goP_end {l : List Ins} {args : List Int} {maxw : Int} {n : Nat} {r : MRun} (h : (atP l args maxw r).1 = 0) (he : (atP l args maxw r).2.ended = true) : goP l args maxw (n + 1) r = (atP l args maxw r).2 := by
 rw [goP]
 simp only [ne_eq]
 rw [if_neg (by rw [h]; simp), if_pos he]
theorem goP_on {l : List Ins} {args : List Int} {maxw : Int} {n : Nat} {r : MRun} (h : (atP l args maxw r).1 = 0) (he : (atP l args maxw r).2.ended = false) : goP l args maxw (n + 1) r = goP l args maxw n (atP l args maxw r).2 := by
 rw [goP]
 simp only [ne_eq]
 rw [if_neg (by rw [h]; simp), if_neg (by rw [he]; simp)]
theorem at_cases (l : List Ins) (args : List Int) (maxw : Int) (r : MRun) : ((atP l args maxw r).1 ≠ 0) ∨ ((atP l args maxw r).1 = 0 ∧ (atP l args maxw r).2.ended = true) ∨ ((atP l args maxw r).1 = 0 ∧ (atP l args maxw r).2.ended = false) := by
 by_cases h : (atP l args maxw r).1 = 0
 ·cases he : (atP l args maxw r).2.ended
  ·exact .inr (.inr ⟨h, rfl⟩)
  ·exact .inr (.inl ⟨h, rfl⟩)
 ·exact .inl h
inductive Fuelled (l : List Ins) (args : List Int) (maxw : Int) (n : Nat) (r : MRun) : Prop
 | short : (goP l args maxw n r).code = 41 → (goP l args maxw n r).steps = r.steps + n → Fuelled l args maxw n r
 | done (k : Nat) : 1 ≤ k → k ≤ n → (goP l args maxw n r).code ≠ 41 → (goP l args maxw n r).steps = r.steps + k → (∀ j, k ≤ j → goP l args maxw j r = goP l args maxw n r) → (∀ j, j < k → (goP l args maxw j r).code = 41) → Fuelled l args maxw n r
theorem do_next {args : List Int} {maxw : Int} {i : Ins} {r : MRun} {p : Nat} (hp : r.pc = (p : Int) + 1) (h0 : (doP args maxw i r).1 = 0) (he : (doP args maxw i r).2.ended = false) : (doP args maxw i r).2.pc ∈ nextP i p := by
 unfold doP at h0 he ⊢
 unfold nextP endsB
 by_cases h17 : i.op = 17
 ·simp [h17]
 by_cases h18 : i.op = 18
 ·by_cases hz : r.reg i.a = 0 <;> simp [h18, hz, hp]
 by_cases h19 : i.op = 19
 ·by_cases hz : r.reg i.a = 0 <;> simp [h19, hz, hp]
 by_cases h20 : i.op = 20
 ·simp [h20] at he
 by_cases h21 : i.op = 21
 ·simp [h21] at h0
 have hn : ∀ x, x = (p : Int) + 1 → x ∈ (if (decide (i.op = 20 ∨ i.op = 21)) = true then [] else if i.op = 17 then [i.imm] else if i.op = 18 ∨ i.op = 19 then [(p : Int) + 1, i.imm] else [(p : Int) + 1]) := by
  rintro x rfl
  simp [h17, h18, h19, h20, h21]
 refine hn _ ?_
 rw [← hp]
 simp only [if_neg h17, if_neg h18, if_neg h19, if_neg h20, if_neg h21]
 by_cases h9 : i.op = 9 ∨ i.op = 10
 ·simp only [if_pos h9]; exact (root_doing maxw i r).2.1
 by_cases h11 : i.op = 11 ∨ i.op = 12 ∨ i.op = 13 ∨ i.op = 14
 ·simp only [if_neg h9, if_pos h11]; exact (word_doing maxw i r).2.1
 by_cases h15 : i.op = 15
 ·simp only [if_neg h9, if_neg h11, if_pos h15]; exact (fresh_doing maxw i r).2.1
 by_cases h16 : i.op = 16
 ·simp only [if_neg h9, if_neg h11, if_neg h15, if_pos h16]; exact (free_doing maxw i r).2.1
 simp only [if_neg h9, if_neg h11, if_neg h15, if_neg h16]
 rfl
theorem step_next {args : List Int} {maxw : Int} {i : Ins} {r : MRun} {p : Nat} (hp : r.pc = (p : Int)) (h0 : (stepP args maxw i r).1 = 0) (he : (stepP args maxw i r).2.ended = false) : (stepP args maxw i r).2.pc ∈ nextP i p :=
 do_next (r := { r with pc := r.pc + 1 }) (by show r.pc + 1 = _; rw [hp]) h0 he
theorem field_reg {x : Int} {u : Bool} (h : fieldB x u = true) : 0 ≤ x ∧ x < 16 := by
 unfold fieldB at h
 simp at h
 omega
theorem right_insOk {l : List Ins} (h : rightP l = true) (hok : ∀ i ∈ l, i.Ok) {k : Nat} {i : Ins} (hi : l[k]? = some i) : InsOk i := by
 obtain ⟨hn, h256, hall, hlast⟩ := right_parts h
 have hk : k < l.length := (List.getElem?_eq_some_iff.1 hi).1
 have ho := hall k hk
 rw [oneAt, hi] at ho
 have ho : oneE l.length k i = 0 := ho
 obtain ⟨hp, h1, h2⟩ := oneE_zero ho
 have hq := hp
 unfold Ins.plain plainB at hq
 simp only [Bool.and_eq_true, decide_eq_true_eq] at hq
 obtain ⟨⟨⟨⟨q1, q2⟩, q3⟩, q4⟩, q5⟩ := hq
 have him := (hok i (List.mem_of_getElem? hi)).imm
 refine ⟨⟨field_reg q2, field_reg q3, field_reg q4⟩, q1, him, fun h8 => ?_, fun g1 g2 => ?_⟩
 ·unfold oneE at ho
  rw [hp, if_neg (by simp), if_pos h8] at ho
  split at ho
  ·omega
  ·omega
 ·have : i.op = 17 ∨ i.op = 18 ∨ i.op = 19 := by omega
  rcases this with e | e | e
  ·have := h1 (.inl e); omega
  ·have := h1 (.inr e); omega
  ·have := h2 e; omega
structure Under (l : List Ins) (args : List Int) (maxw : Int) (N P0 : Nat) (r0 : MRun) (k : Nat) (r : MRun) : Prop where
 ok : ROk maxw r
 steps : r.steps = k
 code : r.code = 0
 pc : ∃ p : Nat, r.pc = p ∧ p < l.length
 writes : r.writes ≤ 9 * k
 news : r.news.length ≤ k
 pick : r.pick.length ≤ P0
 le : k ≤ N
 eq : goP l args maxw N r0 = goP l args maxw (N - k) r
structure Over (l : List Ins) (args : List Int) (maxw : Int) (N P0 : Nat) (r0 : MRun) (r : MRun) : Prop where
 ok : ROk maxw r
 code : r.code = 0
 eq : goP l args maxw N r0 = r
theorem Under.step {l : List Ins} {args : List Int} {maxw : Int} {N P0 : Nat} {r0 : MRun} {k : Nat} {r : MRun} (h : Under l args maxw N P0 r0 k r) (hl : rightP l = true) (hok : ∀ i ∈ l, i.Ok) (ha : ∀ x ∈ args, U64 x) (hk : k < N) (hN : N ≤ 10000000000) (he : r.ended = false) {i : Ins} (hi : l[r.pc.toNat]? = some i) {p : Int × MRun} (hp : p = stepP args maxw i { r with steps := r.steps + 1 }) :
 ROk maxw p.2 ∧ p.2.steps = (k : Int) + 1 ∧ p.2.code = 0 ∧ (p.1 ≠ 0 → goP l args maxw N r0 = { p.2 with code := p.1 }) ∧ (p.1 = 0 → p.2.ended = true → Over l args maxw N P0 r0 p.2) ∧ (p.1 = 0 → p.2.ended = false → Under l args maxw N P0 r0 (k + 1) p.2) := by
 subst hp
 have hd := step_doing args maxw i { r with steps := r.steps + 1 }
 have hg : l.getD r.pc.toNat noIns = i := by rw [List.getD_eq_getElem?_getD, hi]; rfl
 have hat : atP l args maxw r = stepP args maxw i { r with steps := r.steps + 1 } := by unfold atP; rw [hg]
 have hk1 : N - k = (N - (k + 1)) + 1 := by omega
 have hw := h.writes
 have hkN := h.le
 have hok1 : ROk maxw { r with steps := r.steps + 1 } := ⟨h.ok.regs, h.ok.roots, h.ok.blocks, h.ok.pick, h.ok.w0, h.ok.w1, h.ok.mw⟩
 have hok2 : ROk maxw (stepP args maxw i { r with steps := r.steps + 1 }).2 := step_ok hok1 (by show r.writes ≤ _; omega) ha (hok i (List.mem_of_getElem? hi)).imm
 have hst : (stepP args maxw i { r with steps := r.steps + 1 }).2.steps = (k : Int) + 1 := by rw [hd.steps]; show r.steps + 1 = _; rw [h.steps]
 have hco : (stepP args maxw i { r with steps := r.steps + 1 }).2.code = 0 := hd.code.trans h.code
 refine ⟨hok2, hst, hco, fun h1 => ?_, fun h1 h2 => ?_, fun h1 h2 => ?_⟩
 ·rw [h.eq, hk1, goP_err (by rw [hat]; exact h1), hat]
 ·refine ⟨hok2, hco, ?_⟩
  rw [h.eq, hk1, goP_end (by rw [hat]; exact h1) (by rw [hat]; exact h2), hat]
 ·obtain ⟨q, hq, hql⟩ := h.pc
  obtain ⟨x, hx1, hx2, hx3⟩ := hd.news
  have hx3 : r.pick = x ++ (stepP args maxw i { r with steps := r.steps + 1 }).2.pick := hx3
  have hn := h.news
  have hpk := h.pick
  have h9 := hd.nine
  simp only at h9
  have hnx := step_next (r := { r with steps := r.steps + 1 }) (p := q) hq h1 h2
  have hi2 : l[q]? = some i := by rw [hq] at hi; simpa using hi
  have h64 := (hok i (List.mem_of_getElem? hi)).imm.1
  obtain ⟨j, hj1, hj2⟩ := right_next hl hi2 h64 hnx
  refine ⟨hok2, by rw [hst]; omega, hco, ⟨j, hj1, hj2⟩, by omega, ?_, ?_, by omega, ?_⟩
  ·rw [hx2, List.length_append]; show r.news.length + _ ≤ _; omega
  ·have := congrArg List.length hx3
   rw [List.length_append] at this
   omega
  ·rw [h.eq, hk1, goP_on (by rw [hat]; exact h1) (by rw [hat]; exact h2), hat]
end Go.Proofs.Ytjggmimaolddkaa
