import Derived.Test.YtjggmimaolddkaaOrAM
import Derived.Test.YtjggmimaolddkaaOrAN
import Derived.Test.YtjggmimaolddkaaOrAO
import Derived.Test.YtjggmimaolddkaaOrAP
import Derived.Sort.AssemblyPlain
import Derived.Sort.WalkA14
import Derived.Test.YtjggmimaolddkaaOrAL
import Derived.Test.YtjggmimaolddkaaOrAJ
import Derived.Test.YtjggmimaolddkaaOrAI
import Derived.Test.YtjggmimaolddkaaRows
import Derived.Test.YtjggmimaolddkaaOrAA
import Derived.WalkKit
import Derived.Handy
import Derived.WalkLawsBesides
import Derived.WalkSpells
import Derived.Outline
import Derived.BigQuiet
import Derived.Deep.Cut
import Derived.Deep.RegionHeld3
import Derived.Laws.ResultCell
import Derived.Deep.MidRow
namespace Go.Proofs.Ytjggmimaolddkaa
open Go.Sort Go.RowKit
set_option linter.unusedVariables false
def pdqWalk_u64 : Prop := ∀ (blk off cap a b limit : Nat) (d : Array Int) (w : World), Holds (Value.int .u64) w blk off d → blk < w.heap.size → a ≤ b → b ≤ d.size → d.size < 4611686018427387904 → limit < 4611686018427387904 → Below ltInt a b d →
 Calls Try.prog 62 #[.slice (some ⟨blk, off, none⟩) d.size cap, .int .i64 a, .int .i64 b, .int .i64 limit] w fun e w' =>
  e = .returned (.tuple #[]) ∧ ∃ n os, w' = grow (putRow (Value.int .u64) (Sort.ahead w n) blk off (Sort.pdq ltInt d a b limit true true)) os
set_option maxRecDepth 100000 in
theorem srt_Sort_u64 (hpdq : pdqWalk_u64) (blk off cap : Nat) (d : Array Int) (w : World) (hH : Holds (Value.int .u64) w blk off d) (hblk : blk < w.heap.size) (hsz : d.size < 4611686018427387904) :
 Calls Try.prog 48 #[.slice (some ⟨blk, off, none⟩) d.size cap] w fun e w' => e = .returned (.tuple #[]) ∧ ∃ n os, w' = grow (putRow (Value.int .u64) (Sort.ahead w n) blk off (Sort.sort ltInt d)) os := by
 have HH : Hid (Holds (Value.int .u64) w blk off d) := hH
 clear hH
 have hLen : ∀ w, Calls Try.prog 63 #[.int .u64 (d.size : Int)] w fun e w' => e = .returned (.int .i64 (bitsLen d.size : Nat)) ∧ w' = w := fun w => by
  have h := Try.bits_Len (d.size : Int) w (by omega) (by omega)
  rwa [Int.toNat_natCast, bitLen_eq _ (by omega)] at h
 have hk : bitsLen d.size ≤ 62 := (bitsLen_le_iff d.size 62).2 (by omega)
 go_enter Try.func48, Try.ntmps48
 go_wp2_with (first
  | (go_at_call 63; refine (hLen _).mono ?_; rintro e w' ⟨rfl, rfl⟩)
  | (go_at_call 62; refine (hpdq blk off cap 0 d.size (bitsLen d.size) d _ (by exact HH.out) (by exact hblk) (Nat.zero_le _) (Nat.le_refl _) hsz (by omega) (Or.inl rfl)).mono ?_; rintro e w' ⟨rfl, n, os, rfl⟩))
 go_end0
 exact ⟨rfl, n, os, rfl⟩
theorem callees13U : Callees13U where
 ins := srt_insertionSort_u64
 brk := srt_breakPatterns_u64
 piv := srt_choosePivot_u64
 par := srt_partialInsertionSort_u64
 peq := srt_partitionEqualOrdered_u64
 prt := srt_partitionOrdered_u64
theorem plain13U : Plain13 where
 swo := swo_ltInt
 ins := insertionSort_holds
 par := partialInsertionSort_holds
 prt := partition_holds _
 peq := partitionEqual_holds _
 pdq := pdq_sorts _
theorem pdqWalkU : pdqWalk_u64 := fun blk off cap a b limit d w hH hb hab hbd hsz hl hB =>
 srt_pdqsort_u64 callees13U plain13U (b - a + 1) blk off cap a b limit d w (by omega) hH hb hab hbd hsz hl hB
theorem srt_Sort (blk off cap : Nat) (zs : List Int) (w : World) (hH : Holds (Value.int .u64) w blk off zs.toArray) (hblk : blk < w.heap.size) (hsz : zs.length < 4611686018427387904) :
 Calls Try.prog 48 #[.slice (some ⟨blk, off, none⟩) zs.length cap] w fun e w' =>
  e = .returned (.tuple #[]) ∧ ∃ n os, w' = grow (putRow (Value.int .u64) (Sort.ahead w n) blk off (zs.mergeSort fun x y => decide (x ≤ y)).toArray) os := by
 have h := srt_Sort_u64 pdqWalkU blk off cap zs.toArray w hH hblk (by simpa using hsz)
 rw [← sortInt zs]
 simpa using h
end Go.Proofs.Ytjggmimaolddkaa
namespace Go.Proofs.Ytjggmimaolddkaa
open Go.RowKit Go.Maps
set_option linter.unusedVariables false
theorem nodup_len : ∀ (n : Nat) (l : List Int), l.Nodup → (∀ x ∈ l, 0 ≤ x ∧ x < (n : Int)) → l.length ≤ n
 | 0, [], _, _ => Nat.le_refl _
 | 0, x :: l, _, h => by have := h x (by simp); omega
 | n + 1, l, hn, h => by
   have h1 := nodup_len n (l.erase (n : Int)) (hn.erase _) (fun x hx => by
    have hx2 := (hn.mem_erase_iff).1 hx
    have := h x hx2.2
    omega)
   have h2 := List.length_erase (a := (n : Int)) (l := l)
   split at h2 <;> omega
theorem row_holds {w : World} {g : Nat} {cur : Array Value} {e : TypeId} {ss : List Int} (hb : w.heap[g]? = some (.cells cur e (0, 0))) (ht : cur.toList.take ss.length = u64s ss) : Sort.Holds (Value.int .u64) w g 0 ss.toArray := fun j hj => by
 have hj' : j < ss.length := by simpa using hj
 have h1 : (cur.toList.take ss.length)[j]? = (u64s ss)[j]? := by rw [ht]
 rw [List.getElem?_take_of_lt hj'] at h1
 refine ⟨?_, by simp [World.frozen?, hb]⟩
 simp only [World.cell?, hb, Nat.zero_add, Option.isSome_none, Bool.false_eq_true, if_false]
 rw [← Array.getElem?_toList, h1]
 simp [u64s, hj']
theorem row_turned {w : World} {base g cap n : Nat} {e : TypeId} {os : Array Obj} {cur : Array Value} {ss ts : List Int} (hl : ts.length = ss.length) (hbase : base ≤ g) (hb : w.heap[g]? = some (.cells cur e (0, 0))) (h1 : ss.length ≤ cap) (h2 : cap ≤ maxLen) (h3 : cur.size = cap * 1) :
 (Sort.grow (Sort.putRow (Value.int .u64) (Sort.ahead w n) g 0 ts.toArray) os).ownsRow base e 1 (.slice (some ⟨g, 0, none⟩) ss.length cap) ss.length (u64s ts) := by
 have hg : g < w.heap.size := (Array.getElem?_eq_some_iff.1 hb).1
 refine ⟨by simp [u64s, hl], .inr ⟨g, cap, Sort.putCells (Value.int .u64) 0 ts.toArray cur, rfl, hbase, ?_, h1, h2, by simp [Sort.putCells, h3], ?_⟩⟩
 ·rw [Sort.heap_grow_old _ _ (by simpa using hg)]
  simp [Sort.putRow, Sort.mapBlock, Sort.ahead, Array.getElem?_modify, hb, Sort.onCells]
 ·rw [Nat.mul_one, ← hl]
  apply List.ext_getElem?
  intro j
  by_cases hj : j < ts.length
  ·rw [List.getElem?_take_of_lt hj, Array.getElem?_toList]
   simp [Sort.putCells, u64s, hj, show j < cur.size by omega]
  ·rw [List.getElem?_take_eq_none (by omega), List.getElem?_eq_none (by simp [u64s]; omega)]
theorem grown_turned {w : World} {g n : Nat} {os : Array Obj} (d : Array Int) : w.grownBy (Sort.grow (Sort.putRow (Value.int .u64) (Sort.ahead w n) g 0 d) os) (some g) := by
 refine ⟨rfl, rfl, rfl, by simp, fun k hk hne => ?_⟩
 rw [Sort.heap_grow_old _ _ (by simpa using hk)]
 have : g ≠ k := fun e => hne (by rw [e])
 simp [Sort.putRow, Sort.mapBlock, Sort.ahead, Array.getElem?_modify, this]
def sortZ (l : List Int) : List Int := l.mergeSort fun x y => decide (x ≤ y)
theorem sortZ_perm (l : List Int) : (sortZ l).Perm l := List.mergeSort_perm l _
theorem sortZ_len (l : List Int) : (sortZ l).length = l.length := by simp [sortZ]
theorem sortZ_le (l : List Int) : (sortZ l).Pairwise fun x y => x ≤ y := by
 have h := List.pairwise_mergeSort (le := fun x y : Int => decide (x ≤ y)) (fun a b c h1 h2 => by simp at *; omega) (fun a b => by simp; omega) l
 exact h.imp fun hab => by simpa using hab
theorem sortZ_lt {l : List Int} (h : l.Nodup) : (sortZ l).Pairwise fun x y => x < y := by
 have h1 := sortZ_le l
 have h2 : (sortZ l).Nodup := (sortZ_perm l).nodup_iff.2 h
 exact (h1.and h2).imp fun ⟨a, b⟩ => by
  have : ¬ _ = _ := b
  omega
theorem sortZ_short {l : List Int} (h : l.length ≤ 1) : sortZ l = l := by
 match l, h with
 | [], _ => exact List.Perm.eq_nil (sortZ_perm [])
 | [x], _ => exact List.perm_singleton.1 (sortZ_perm [x])
theorem sort_u64s (base : Nat) (v : Value) (ss : List Int) (w : World) (h : w.ownsRow base 31 1 v ss.length (u64s ss)) (hl : ss.length ≤ 1000000000000) :
 Calls Try.prog 48 #[v] w fun e w' => (∃ u, e = .returned u) ∧ w'.ownsRow base 31 1 v ss.length (u64s (sortZ ss)) ∧ w.grownBy w' v.ownBlock := by
 by_cases h1 : ss.length ≤ 1
 ·obtain ⟨A, c, rfl, _⟩ := Rd.of_own h
  refine (sort_one A ss.length c _ h1).mono ?_
  rintro e w' ⟨he, rfl⟩
  rw [sortZ_short h1]
  exact ⟨he, h, World.grownBy.refl _ _⟩
 ·rcases h.2 with ⟨_, h0⟩ | ⟨g, cap, cur, rfl, hbase, hb, g1, g2, g3, g4⟩
  ·omega
  rw [Nat.mul_one] at g4
  refine (srt_Sort g 0 cap ss w (row_holds hb g4) (Array.getElem?_eq_some_iff.1 hb).1 (by omega)).mono ?_
  rintro e w' ⟨rfl, n, os, rfl⟩
  exact ⟨⟨_, rfl⟩, row_turned (sortZ_len ss) hbase hb g1 g2 g3, grown_turned _⟩
theorem keysOf_perm {f : Int → Option (List Int)} {ss ts : List Int} (h : KeysOf f ss) (hp : ts.Perm ss) : KeysOf f ts := ⟨hp.nodup_iff.2 h.1, fun x => (hp.mem_iff).trans (h.2 x)⟩
set_option maxRecDepth 100000 in
theorem sorted_any (Bm b m : Nat) (f : Int → Option (List Int)) (w : World) (hBm : Bm < w.heap.size)
 (hm : w.cell? ⟨Bm, 0, none⟩ = some (.map (some b))) (hown : OwnB w Try.prog 31 b m f) (hb : m ≤ 1000000000000) (hlen : ∀ ss, KeysOf f ss → ss.length ≤ 1000000) :
 Calls Try.prog 36 #[.func (.func 49) #[] #[.pointer (some ⟨Bm, 0, none⟩)]] w (HandlesPost f w) := by
 go_enter Try.func36, Try.ntmps36
 go_wp2_with fail
 refine (collect_any Bm b m f _ hBm hm hown hb).mono ?_
 rintro e w2 ⟨v, ss, rfl, hS, hrow, hb2⟩
 have HS := Lib.hid hS
 have h1 := hlen ss hS
 have HRow := Lib.hid hrow
 have HB2 := Lib.hid hb2
 clear hS hrow hb2
 go_wp2_with fail
 refine (sort_u64s w.heap.size v ss _ HRow.out (by omega)).mono ?_
 rintro e w3 ⟨⟨v3, rfl⟩, hrow3, hg3⟩
 have HRow3 := Lib.hid hrow3
 have HB3 := Lib.hid (below_own HB2.out HRow.out hg3 (Nat.le_refl _) HB2.out.size)
 clear hrow3 hg3
 go_wp2
 go_ret
 exact ⟨_, sortZ ss, rfl, keysOf_perm HS.out (sortZ_perm ss), sortZ_lt HS.out.1, by rw [sortZ_len]; exact HRow3.out, HB3.out⟩
set_option maxRecDepth 100000 in
theorem handles_many (B n sb mb : Nat) (s : MSt) (w : World) (h : StIn w B n sb mb s) (hn : n ≤ 1000000000000) (hlen : ∀ ss, KeysOf s.blocks ss → ss.length ≤ 1000000) :
 Calls Try.prog 21 #[.pointer (some ⟨sb, 0, none⟩)] w (HandlesPost s.blocks w) := by
 have kM : w.cell? ⟨sb, 16, none⟩ = some (.map (some mb)) := h.st.map h.roots
 have HM := Lib.hid h.map
 clear h
 go_enter Try.func21, Try.ntmps21
 go_wp2_with fail
 refine (keys_any mb _).mono ?_
 rintro e w1 ⟨rfl, hw1⟩
 have hb1 : Below w.heap.size w w1 := by rw [hw1]; exact (Below.refl _ _).alloc (Nat.le_refl _) _
 have hc1 : w1.cell? ⟨w.heap.size, 0, none⟩ = some (.map (some mb)) := by rw [hw1]; exact World.cell?_alloc_at _ _ _ _ rfl
 have hz1 : w.heap.size < w1.heap.size := by rw [hw1]; simp
 have HM1 := Lib.hid (HM.out.below hb1)
 have HB1 := Lib.hid hb1
 have HC1 := Lib.hid hc1
 clear hw1 hb1 hc1
 go_wp2_with fail
 refine (sorted_any w.heap.size mb n s.blocks _ hz1 HC1.out HM1.out hn hlen).mono ?_
 rintro e w2 ⟨v, ss, rfl, hS, hsr, hrow, hb2⟩
 have HS := Lib.hid hS
 have HSr := Lib.hid hsr
 have HRow := Lib.hid hrow
 have HB2 := Lib.hid (HB1.out.trans (hb2.mono HB1.out.size))
 clear hS hrow hb2 hsr
 go_wp2
 go_ret
 exact ⟨_, ss, rfl, HS.out, HSr.out, own_base HRow.out (Nat.le_of_lt hz1), HB2.out⟩
end Go.Proofs.Ytjggmimaolddkaa
namespace Go.Proofs.Ytjggmimaolddkaa
open Go.RowKit
set_option linter.unusedVariables false
def sumF (d : Nat → Nat) : Nat → Nat
 | 0 => 0
 | n + 1 => sumF d n + d n
theorem sumF_one {d d' : Nat → Nat} {i c : Nat} (h : ∀ k, k ≠ i → d' k ≤ d k) (hi : d' i ≤ d i + c) : ∀ n, sumF d' n ≤ sumF d n + c
 | 0 => by simp [sumF]
 | n + 1 => by
   rw [sumF, sumF]
   by_cases e : n = i
   ·subst e
    have : sumF d' n ≤ sumF d n := by
     have hl : ∀ m, m ≤ n → sumF d' m ≤ sumF d m := by
      intro m
      induction m with
      | zero => intro _; exact Nat.le_refl _
      | succ m ih =>
        intro hm
        have h1 := ih (by omega)
        have h2 := h m (by omega)
        rw [sumF, sumF]; omega
     exact hl n (Nat.le_refl _)
    omega
   ·have h1 := sumF_one h hi n
    have h2 := h n e
    omega
theorem sumF_zero {d : Nat → Nat} (h : ∀ k, d k = 0) : ∀ n, sumF d n = 0
 | 0 => rfl
 | n + 1 => by rw [sumF, sumF_zero h n, h n]
theorem sumF_le {d : Nat → Nat} {c : Nat} (h : ∀ k, d k ≤ c) : ∀ n, sumF d n ≤ c * n
 | 0 => by simp [sumF]
 | n + 1 => by
   have h1 := sumF_le h n
   have h2 := h n
   rw [sumF, Nat.mul_add]; omega
def ne1 (x y : Int) : Nat := if x = y then 0 else 1
def difN (b a : List Int) (n : Nat) : Nat := sumF (fun k => ne1 (b.getD k 0) (a.getD k 0)) n
theorem ne1_self (x : Int) : ne1 x x = 0 := by simp [ne1]
theorem ne1_le (x y : Int) : ne1 x y ≤ 1 := by unfold ne1; split <;> omega
theorem difN_self (a : List Int) (n : Nat) : difN a a n = 0 := sumF_zero (fun k => ne1_self _) n
theorem difN_set (b a : List Int) (i : Nat) (v : Int) (n : Nat) : difN (b.set i v) a n ≤ difN b a n + 1 := by
 refine sumF_one (i := i) (fun k hk => ?_) ?_ n
 ·rw [List.getD_eq_getElem?_getD, List.getD_eq_getElem?_getD, List.getElem?_set_ne (by omega)]; exact Nat.le_refl _
 ·have := ne1_le ((b.set i v).getD i 0) (a.getD i 0); omega
def difO : Option (List Int) → Option (List Int) → Nat
 | some b, some a => difN b a 8
 | _, _ => 0
theorem difO_le (x y : Option (List Int)) : difO x y ≤ 8 := by
 match x, y with
 | some b, some a => have := sumF_le (d := fun k => ne1 (b.getD k 0) (a.getD k 0)) (fun k => ne1_le _ _) 8; show difN b a 8 ≤ 8; unfold difN; omega
 | some b, none => simp [difO]
 | none, _ => simp [difO]
theorem difO_self (x : Option (List Int)) : difO x x = 0 := by
 match x with
 | some b => exact difN_self b 8
 | none => rfl
def difB (f g : Int → Option (List Int)) : Nat := sumF (fun h => difO (f (h : Int)) (g (h : Int))) 65
theorem difB_self (f : Int → Option (List Int)) : difB f f = 0 := sumF_zero (fun k => difO_self _) 65
theorem difB_upd (f g : Int → Option (List Int)) (x : Int) (o : Option (List Int)) (c : Nat) (hc : ∀ h : Nat, (h : Int) = x → difO o (g x) ≤ difO (f x) (g x) + c) : difB (upd f x o) g ≤ difB f g + c := by
 by_cases hx : ∃ h : Nat, (h : Int) = x
 ·obtain ⟨h, rfl⟩ := hx
  refine sumF_one (i := h) (fun k hk => ?_) ?_ 65
  ·have : upd f (h : Int) o (k : Int) = f (k : Int) := by unfold upd; rw [if_neg (by omega)]
   rw [this]; exact Nat.le_refl _
  ·have : upd f (h : Int) o (h : Int) = o := by unfold upd; rw [if_pos rfl]
   rw [this]; exact hc h rfl
 ·have : ∀ k : Nat, upd f x o (k : Int) = f (k : Int) := fun k => by unfold upd; rw [if_neg (fun e => hx ⟨k, e⟩)]
  unfold difB
  simp only [this]
  omega
def difS (s s0 : MSt) : Nat := difN s.roots s0.roots 16 + difB s.blocks s0.blocks
theorem difS_self (s : MSt) : difS s s = 0 := by unfold difS; rw [difN_self, difB_self]
def Few64 (s : MSt) : Prop := ∀ h, (s.blocks h).isSome = true → 1 ≤ h ∧ h ≤ 64
structure Near (s0 : MSt) (P : List Int) (r : MRun) : Prop where
 dif : (difS r.st s0 : Int) ≤ r.writes
 nine : 9 * (r.news.length : Int) ≤ r.writes
 pick : r.news ++ r.pick = P
 few : Few64 r.st
 pos : ∀ x ∈ P, U64 x
theorem Near.of {s0 : MSt} {P : List Int} {r r' : MRun} (h : Near s0 P r) (h1 : r'.st = r.st) (h2 : r'.writes = r.writes) (h3 : r'.news = r.news) (h4 : r'.pick = r.pick) : Near s0 P r' :=
 ⟨by rw [h1, h2]; exact h.dif, by rw [h2, h3]; exact h.nine, by rw [h3, h4]; exact h.pick, by rw [h1]; exact h.few, h.pos⟩
theorem writes_put {op : Int} (h : op = 10 ∨ op = 13 ∨ op = 14) : writesOf op = 1 := by rcases h with rfl | rfl | rfl <;> decide
theorem root_near {s0 : MSt} {P : List Int} {r : MRun} {maxw : Int} {i : Ins} (h : Near s0 P r) (ho : i.op = 9 ∨ i.op = 10) : Near s0 P (rootP maxw i r).2 := by
 unfold rootP
 split
 ·exact h
 split
 ·exact h.of rfl rfl rfl rfl
 split
 ·exact h
 ·rename_i h9 _ r2 hp
  obtain ⟨rfl, _⟩ := payP_some hp
  have hw : writesOf i.op = 1 := writes_put (by omega)
  have hd := difN_set r.st.roots s0.roots (r.reg i.b).toNat (r.reg i.a) 16
  have h0 := h.dif
  unfold difS at h0
  refine ⟨?_, ?_, h.pick, h.few, h.pos⟩
  ·show ((difN (r.st.roots.set _ _) s0.roots 16 + difB r.st.blocks s0.blocks : Nat) : Int) ≤ r.writes + writesOf i.op
   omega
  ·show 9 * (r.news.length : Int) ≤ r.writes + writesOf i.op
   have := h.nine; omega
theorem few_upd {f : Int → Option (List Int)} {x : Int} {o : Option (List Int)} (h : ∀ y, (f y).isSome = true → 1 ≤ y ∧ y ≤ 64) (hx : o.isSome = true → 1 ≤ x ∧ x ≤ 64) : ∀ y, (upd f x o y).isSome = true → 1 ≤ y ∧ y ≤ 64 := fun y hy => by
 unfold upd at hy
 split at hy
 ·rename_i e; rw [e]; exact hx hy
 ·exact h y hy
theorem word_near {s0 : MSt} {P : List Int} {r : MRun} {maxw : Int} {i : Ins} (h : Near s0 P r) (ho : i.op = 11 ∨ i.op = 12 ∨ i.op = 13 ∨ i.op = 14) : Near s0 P (wordP maxw i r).2 := by
 unfold wordP
 split
 ·exact h
 ·rename_i ws hf
  split
  ·exact h
  split
  ·exact h.of rfl rfl rfl rfl
  split
  ·exact h
  ·rename_i h8 h11 r2 hp
   obtain ⟨rfl, _⟩ := payP_some hp
   have hw : writesOf i.op = 1 := writes_put (by omega)
   have hd := difB_upd r.st.blocks s0.blocks (r.reg i.b) (some (ws.set (wordAt i r).toNat (r.reg i.a))) 1 (fun k _ => by
    rw [hf]
    cases s0.blocks (r.reg i.b) with
    | none => simp [difO]
    | some a => exact difN_set ws a _ _ 8)
   have h0 := h.dif
   unfold difS at h0
   refine ⟨?_, ?_, h.pick, ?_, h.pos⟩
   ·show ((difN r.st.roots s0.roots 16 + difB (upd _ _ _) s0.blocks : Nat) : Int) ≤ r.writes + writesOf i.op
    omega
   ·show 9 * (r.news.length : Int) ≤ r.writes + writesOf i.op
    have := h.nine; omega
   ·exact few_upd h.few (fun _ => h.few _ (by rw [hf]; rfl))
theorem fresh_near {s0 : MSt} {P : List Int} {r : MRun} {maxw : Int} {i : Ins} (h : Near s0 P r) (ho : i.op = 15) : Near s0 P (freshP maxw i r).2 := by
 have hw : writesOf i.op = 9 := by rw [ho]; decide
 unfold freshP
 split
 ·exact h
 ·rename_i r2 hp
  obtain ⟨rfl, _⟩ := payP_some hp
  have h0 := h.dif
  have h9 := h.nine
  have hpay : Near s0 P { r with writes := r.writes + writesOf i.op } := ⟨by show ((difS r.st s0 : Nat) : Int) ≤ r.writes + writesOf i.op; omega, by show 9 * (r.news.length : Int) ≤ r.writes + writesOf i.op; omega, h.pick, h.few, h.pos⟩
  split
  ·exact hpay
  ·rename_i x rest hpk
   split
   ·exact hpay
   ·rename_i hno
    have hxU : U64 x := h.pos x (by rw [← h.pick, hpk]; simp)
    have hx : 1 ≤ x ∧ x ≤ 64 := by unfold U64 at hxU; omega
    have hd := difB_upd r.st.blocks s0.blocks x (some zero8) 8 (fun k _ => by have := difO_le (some zero8) (s0.blocks x); omega)
    unfold difS at h0
    refine ⟨?_, ?_, ?_, ?_, h.pos⟩
    ·show ((difN r.st.roots s0.roots 16 + difB (upd _ _ _) s0.blocks : Nat) : Int) ≤ r.writes + writesOf i.op
     omega
    ·show 9 * ((r.news ++ [x]).length : Int) ≤ r.writes + writesOf i.op
     rw [List.length_append]
     simp only [List.length_cons, List.length_nil]
     omega
    ·show (r.news ++ [x]) ++ rest = P
     rw [List.append_assoc, List.singleton_append, ← hpk]; exact h.pick
    ·exact few_upd h.few (fun _ => hx)
theorem free_near {s0 : MSt} {P : List Int} {r : MRun} {maxw : Int} {i : Ins} (h : Near s0 P r) : Near s0 P (freeP maxw i r).2 := by
 have hw := writesOf_nn i.op
 unfold freeP
 split
 ·exact h
 ·split
  ·exact h
  ·rename_i r2 hp
   obtain ⟨rfl, _⟩ := payP_some hp
   have h0 := h.dif
   have h9 := h.nine
   have hd := difB_upd r.st.blocks s0.blocks (r.reg i.a) none 0 (fun k _ => by simp [difO])
   unfold difS at h0
   refine ⟨?_, ?_, h.pick, ?_, h.pos⟩
   ·show ((difN r.st.roots s0.roots 16 + difB (upd _ _ _) s0.blocks : Nat) : Int) ≤ r.writes + writesOf i.op
    omega
   ·show 9 * (r.news.length : Int) ≤ r.writes + writesOf i.op
    omega
   ·exact few_upd h.few (fun h => by simp at h)
theorem do_near {s0 : MSt} {P : List Int} {r : MRun} {args : List Int} {maxw : Int} {i : Ins} (h : Near s0 P r) : Near s0 P (doP args maxw i r).2 := by
 unfold doP
 split
 ·exact h.of rfl rfl rfl rfl
 split
 ·show Near s0 P (if _ then _ else _)
  split
  ·exact h.of rfl rfl rfl rfl
  ·exact h
 split
 ·show Near s0 P (if _ then _ else _)
  split
  ·exact h
  ·exact h.of rfl rfl rfl rfl
 split
 ·exact h.of rfl rfl rfl rfl
 split
 ·exact h.of rfl rfl rfl rfl
 split
 ·rename_i ho; exact root_near h ho
 split
 ·rename_i ho; exact word_near h ho
 split
 ·rename_i ho; exact fresh_near h ho
 split
 ·exact free_near h
 ·exact h.of rfl rfl rfl rfl
theorem at_near {s0 : MSt} {P : List Int} {r : MRun} {l : List Ins} {args : List Int} {maxw : Int} (h : Near s0 P r) : Near s0 P (atP l args maxw r).2 :=
 do_near (h.of (r' := { r with steps := r.steps + 1, pc := r.pc + 1 }) rfl rfl rfl rfl)
theorem go_near {s0 : MSt} {P : List Int} {l : List Ins} {args : List Int} {maxw : Int} : ∀ (n : Nat) (r : MRun), Near s0 P r → Near s0 P (goP l args maxw n r)
 | 0, r, h => h.of rfl rfl rfl rfl
 | n + 1, r, h => by
   rcases at_cases l args maxw r with h1 | ⟨h1, h2⟩ | ⟨h1, h2⟩
   ·rw [goP_err h1]; exact (at_near h).of rfl rfl rfl rfl
   ·rw [goP_end h1 h2]; exact at_near h
   ·rw [goP_on h1 h2]; exact go_near n _ (at_near h)
theorem run_near {s : MSt} {l : List Ins} {args : List Int} {fuel maxw : Int} {pick : List Int} (hs : Few64 s) (hp : ∀ x ∈ pick, U64 x) : Near s pick (runP s l args fuel maxw pick) := by
 have h0 : Near s pick (startP s pick) := ⟨by show ((difS s s : Nat) : Int) ≤ 0; rw [difS_self]; decide, by show 9 * ((List.length []) : Int) ≤ 0; decide, rfl, hs, hp⟩
 unfold runP
 split
 ·exact go_near _ _ h0
 ·exact h0.of rfl rfl rfl rfl
theorem after_few {s : MSt} {r : MRun} {P : List Int} (hs : Few64 s) (h : Near s P r) : Few64 (afterP s r) := by
 unfold afterP
 split
 ·exact h.few
 ·exact hs
theorem empty_few : Few64 emptyS := fun h hh => by simp [emptyS] at hh
end Go.Proofs.Ytjggmimaolddkaa
namespace Go.Proofs.Ytjggmimaolddkaa
open Go.RowKit
set_option linter.unusedVariables false
structure Cfg where
 T : Int
 B : Int
 W : Int
 F : Int
 fi : Int
 la : Int
def Cfg.cells (c : Cfg) : List Value := [.int .i64 c.T, .int .i64 c.B, .int .i64 c.W, .int .i64 c.F, .int .u64 c.fi, .int .u64 c.la]
def Cfg.v (c : Cfg) : Value := .agg #[.int .i64 c.T, .int .i64 c.B, .int .i64 c.W, .int .i64 c.F, .int .u64 c.fi, .int .u64 c.la]
structure Cfg.Right (c : Cfg) : Prop where
 T : 1 ≤ c.T ∧ c.T ≤ 8
 B : 1 ≤ c.B ∧ c.B ≤ 64
 W : 0 ≤ c.W ∧ c.W ≤ 64
 F : 1 ≤ c.F ∧ c.F ≤ 1000
 L : c.fi ≤ c.la ∧ c.la ≤ 140737488355328
def Cfg.right (c : Cfg) : Bool := decide (1 ≤ c.T) && decide (c.T ≤ 8) && decide (1 ≤ c.B) && decide (c.B ≤ 64) && decide (0 ≤ c.W) && decide (c.W ≤ 64) && decide (1 ≤ c.F) && decide (c.F ≤ 1000) && decide (c.fi ≤ c.la) && decide (c.la ≤ 140737488355328)
theorem Cfg.right_iff (c : Cfg) : c.right = true ↔ c.Right := by
 unfold Cfg.right
 simp only [Bool.and_eq_true, decide_eq_true_eq]
 exact ⟨fun h => ⟨⟨h.1.1.1.1.1.1.1.1.1, h.1.1.1.1.1.1.1.1.2⟩, ⟨h.1.1.1.1.1.1.1.2, h.1.1.1.1.1.1.2⟩, ⟨h.1.1.1.1.1.2, h.1.1.1.1.2⟩, ⟨h.1.1.1.2, h.1.1.2⟩, ⟨h.1.2, h.2⟩⟩,
  fun h => ⟨⟨⟨⟨⟨⟨⟨⟨⟨h.T.1, h.T.2⟩, h.B.1⟩, h.B.2⟩, h.W.1⟩, h.W.2⟩, h.F.1⟩, h.F.2⟩, h.L.1⟩, h.L.2⟩⟩
def Cfg.lim (c : Cfg) : Int := c.T * (c.W + 1)
def Cfg.cap (c : Cfg) : Int := c.T * (c.W + 3) + 3 * c.lim + 2
def Cfg.stride (c : Cfg) : Int := 8 + c.cap
def Cfg.fTag (c : Cfg) : Int := 1 + c.T * c.stride
def Cfg.fRoot (c : Cfg) : Int := c.fTag + c.T * 3
def Cfg.fLife (c : Cfg) : Int := c.fRoot + 16
def Cfg.fTop (c : Cfg) : Int := c.fLife + c.B
def Cfg.fStack (c : Cfg) : Int := c.fTop + 1
def Cfg.fLim (c : Cfg) : Int := c.fStack + c.B
def Cfg.fLimbo (c : Cfg) : Int := c.fLim + 1
def Cfg.fWord (c : Cfg) : Int := c.fLimbo + c.lim
def Cfg.size (c : Cfg) : Int := c.fWord + c.B * 8
def Cfg.from_ (c : Cfg) : List Int := [0, 0, 0, 0, 0, 0, 0, c.fTag, 0, 0, c.fRoot, c.fLife, c.fTop, c.fStack, c.fLim, c.fLimbo, c.fWord, c.size]
def zeroMap : Value := .agg #[.int .i64 0, .int .i64 0, .int .i64 0, .int .i64 0, .int .u64 0, .int .u64 0, .int .i64 0, .int .i64 0, .int .i64 0, .int .i64 0, .int .i64 0, .int .i64 0, .int .i64 0, .int .i64 0, .int .i64 0, .int .i64 0, .int .i64 0, .int .i64 0, .int .i64 0, .int .i64 0, .int .i64 0, .int .i64 0, .int .i64 0, .int .i64 0]
def Cfg.map (c : Cfg) : Value := .agg #[.int .i64 c.T, .int .i64 c.B, .int .i64 c.W, .int .i64 c.F, .int .u64 c.fi, .int .u64 c.la, .int .i64 0, .int .i64 0, .int .i64 0, .int .i64 0, .int .i64 0, .int .i64 0, .int .i64 0, .int .i64 c.fTag, .int .i64 0, .int .i64 0, .int .i64 c.fRoot, .int .i64 c.fLife, .int .i64 c.fTop, .int .i64 c.fStack, .int .i64 c.fLim, .int .i64 c.fLimbo, .int .i64 c.fWord, .int .i64 c.size]
structure Cfg.Bounds (c : Cfg) : Prop where
 lim : 1 ≤ c.lim ∧ c.lim ≤ 520
 cap : 8 ≤ c.cap ∧ c.cap ≤ 2098
 stride : 16 ≤ c.stride ∧ c.stride ≤ 2106
 tag : 17 ≤ c.fTag ∧ c.fTag ≤ 16849
 m3 : 3 ≤ c.T * 3 ∧ c.T * 3 ≤ 24
 m8 : 8 ≤ c.B * 8 ∧ c.B * 8 ≤ 512
theorem mul_bounds {a b x y u v : Int} (h1 : a ≤ x) (h2 : x ≤ b) (h3 : u ≤ y) (h4 : y ≤ v) (ha : 0 ≤ a) (hu : 0 ≤ u) : a * u ≤ x * y ∧ x * y ≤ b * v :=
 ⟨Int.mul_le_mul h1 h3 hu (by omega), Int.mul_le_mul h2 h4 (by omega) (by omega)⟩
theorem Cfg.Right.bounds {c : Cfg} (h : c.Right) : c.Bounds := by
 have h1 := mul_bounds h.T.1 h.T.2 (show 1 ≤ c.W + 1 by have := h.W.1; omega) (show c.W + 1 ≤ 65 by have := h.W.2; omega) (by omega) (by omega)
 have h2 := mul_bounds h.T.1 h.T.2 (show 3 ≤ c.W + 3 by have := h.W.1; omega) (show c.W + 3 ≤ 67 by have := h.W.2; omega) (by omega) (by omega)
 have h3 : 8 ≤ c.cap ∧ c.cap ≤ 2098 := by unfold Cfg.cap Cfg.lim; omega
 have h4 : 16 ≤ c.stride ∧ c.stride ≤ 2106 := by unfold Cfg.stride; omega
 have h5 := mul_bounds h.T.1 h.T.2 h4.1 h4.2 (by omega) (by omega)
 exact ⟨h1, h3, h4, by unfold Cfg.fTag; omega, by have := h.T; omega, by have := h.B; omega⟩
set_option maxRecDepth 100000 in
set_option maxHeartbeats 1000000 in
theorem lright_any (c : Cfg) (w : World) : Calls Try.prog 34 #[c.v] w fun e w' => e = .returned (.bool c.right) ∧ Below w.heap.size w w' := by
 obtain ⟨T, B, W, FU, fi, la⟩ := c
 unfold Cfg.v
 simp only
 have HB : Hid (Below w.heap.size w (w.alloc (.cells #[.int .i64 T, .int .i64 B, .int .i64 W, .int .i64 FU, .int .u64 fi, .int .u64 la] 44))) := (Below.refl _ _).alloc (Nat.le_refl _) _
 have HR : Hid (Cfg.right ⟨T, B, W, FU, fi, la⟩ = (decide (1 ≤ T) && decide (T ≤ 8) && decide (1 ≤ B) && decide (B ≤ 64) && decide (0 ≤ W) && decide (W ≤ 64) && decide (1 ≤ FU) && decide (FU ≤ 1000) && decide (fi ≤ la) && decide (la ≤ 140737488355328))) := rfl
 go_enter Try.func34, Try.ntmps34
 by_cases h0 : 1 ≤ T
 case neg =>
  go_wp2
  go_ret
  exact ⟨ret_bool (by rw [HR.out]; simp; intros; omega), HB.out⟩
 by_cases h1 : T ≤ 8
 case neg =>
  go_wp2
  go_ret
  exact ⟨ret_bool (by rw [HR.out]; simp; intros; omega), HB.out⟩
 by_cases h2 : 1 ≤ B
 case neg =>
  go_wp2
  go_ret
  exact ⟨ret_bool (by rw [HR.out]; simp; intros; omega), HB.out⟩
 by_cases h3 : B ≤ 64
 case neg =>
  go_wp2
  go_ret
  exact ⟨ret_bool (by rw [HR.out]; simp; intros; omega), HB.out⟩
 by_cases h4 : 0 ≤ W
 case neg =>
  go_wp2
  go_ret
  exact ⟨ret_bool (by rw [HR.out]; simp; intros; omega), HB.out⟩
 by_cases h5 : W ≤ 64
 case neg =>
  go_wp2
  go_ret
  exact ⟨ret_bool (by rw [HR.out]; simp; intros; omega), HB.out⟩
 by_cases h6 : 1 ≤ FU
 case neg =>
  go_wp2
  go_ret
  exact ⟨ret_bool (by rw [HR.out]; simp; intros; omega), HB.out⟩
 by_cases h7 : FU ≤ 1000
 case neg =>
  go_wp2
  go_ret
  exact ⟨ret_bool (by rw [HR.out]; simp; intros; omega), HB.out⟩
 by_cases h8 : fi ≤ la
 case neg =>
  go_wp2
  go_ret
  exact ⟨ret_bool (by rw [HR.out]; simp; intros; omega), HB.out⟩
 by_cases h9 : la ≤ 140737488355328
 case neg =>
  go_wp2
  go_ret
  exact ⟨ret_bool (by rw [HR.out]; simp; intros; omega), HB.out⟩
 go_wp2
 go_ret
 exact ⟨ret_bool (by rw [HR.out]; simp [*]), HB.out⟩
structure CfgIn (M : Array Value) (c : Cfg) : Prop where
 size : M.size = 24
 c0 : M[0]? = some (.int .i64 c.T)
 c1 : M[1]? = some (.int .i64 c.B)
 c2 : M[2]? = some (.int .i64 c.W)
 c3 : M[3]? = some (.int .i64 c.F)
 c4 : M[4]? = some (.int .u64 c.fi)
 c5 : M[5]? = some (.int .u64 c.la)
set_option maxRecDepth 100000 in
set_option maxHeartbeats 1000000 in
theorem llimit_any (c : Cfg) (M : Array Value) (hM : CfgIn M c) (hR : c.Right) (w : World) : Calls Try.prog 24 #[.agg M] w fun e w' => e = .returned (.int .i64 c.lim) ∧ Below w.heap.size w w' := by
 have HE : Hid (c.lim = c.T * (c.W + 1)) := rfl
 have hT := hR.T
 have hW := hR.W
 have hb := hR.bounds.lim
 rw [HE.out] at hb
 have HM := Lib.hid hM
 obtain ⟨T, B, W, FU, fi, la⟩ := c
 simp only at hT hW HE hb
 obtain ⟨hb1, hb2⟩ := hb
 have HB : Hid (Below w.heap.size w (w.alloc (.cells M 74))) := (Below.refl _ _).alloc (Nat.le_refl _) _
 have HK : Hid (Bk (w.alloc (.cells M 74)) w.heap.size 74 M) := Bk.new w _ _
 have j0 := (HK.out.cell 0).trans HM.out.c0
 have j2 := (HK.out.cell 2).trans HM.out.c2
 simp only at j0 j2
 clear hM hR
 go_enter Try.func24, Try.ntmps24
 go_wp2
 go_ret
 exact ⟨ret_int HE.out.symm, HB.out⟩
end Go.Proofs.Ytjggmimaolddkaa
namespace Go.Proofs.Ytjggmimaolddkaa
open Go.RowKit
set_option linter.unusedVariables false
abbrev bareOp (op : Op) (ty : TypeId) : Oper := { dst := none, op := op, type := ty, pos := "", after := #[], guard := none }
theorem execOp_bare (ρ : Operand → Value) (o : Oper) : execOp ρ o = execOp ρ (bareOp o.op o.type) := rfl
section
variable {P : Program} {ops : Array Oper} {Q : Exit → Act → World → Prop} {md : Region.Mode} {S : World → Prop} {fuel : Nat} {listed : Array Bool} {a : Act} {w : World}
theorem takeH (i : Nat) {oi : Oper} {op : Op} {ty : TypeId} {d : Tmp} {v : Value} (hi : ops[i]? = some oi) (hop : oi.op = op) (hty : oi.type = ty) (hd : oi.dst = some d)
 (hs : Region.noSelect ops = true) (hf : Region.free md ops listed i = true) (hr : (Region.ready md ops listed).contains i = true)
 (hQ : ∀ c (a : Act) (d : Tmp) (v : Value) w, Q (.panic c) (a.put (some d) v) w → Q (.panic c) a w) (hw : Region.wanted oi (yielded ops a.tmps) = true) (hS : S w)
 (hy : ∀ w, S w → (execOp a.eval (bareOp op ty)).run P w = .ok (.value v) w)
 (h : wpAnyH P md ops Q S fuel (listed.setIfInBounds i true) (a.put (some d) v) w) : wpAnyH P md ops Q S (fuel + 1) listed a w := by
 subst hop hty
 refine wpAnyH_take hi hs hf hr (fun c a w hq => hQ c a d v w (by rw [hd] at hq; exact hq)) (.inl ⟨hw, fun w1 h1 => ?_⟩) hS (by rw [hd]; exact h)
 rw [execOp_bare]
 exact hy w1 h1
theorem skipH (i : Nat) {oi : Oper} {d : Tmp} (hi : ops[i]? = some oi) (hd : oi.dst = some d)
 (hs : Region.noSelect ops = true) (hf : Region.free md ops listed i = true) (hr : (Region.ready md ops listed).contains i = true)
 (hQ : ∀ c (a : Act) (d : Tmp) (v : Value) w, Q (.panic c) (a.put (some d) v) w → Q (.panic c) a w) (hw : Region.wanted oi (yielded ops a.tmps) = false) (hS : S w)
 (h : wpAnyH P md ops Q S fuel (listed.setIfInBounds i true) (a.put (some d) undef) w) : wpAnyH P md ops Q S (fuel + 1) listed a w :=
 wpAnyH_take hi hs hf hr (fun c a w hq => hQ c a d _ w (by rw [hd] at hq; exact hq)) (.inr ⟨hw, rfl⟩) hS (by rw [hd]; exact h)
theorem loadH (i : Nat) {oi : Oper} {x : Operand} {d : Tmp} {ty : TypeId} (hi : ops[i]? = some oi) (hop : oi.op = .load ty x) (hd : oi.dst = some d)
 (hs : Region.noSelect ops = true) (hf : Region.free md ops listed i = true) (hr : (Region.ready md ops listed).contains i = true)
 (hQ : ∀ c (a : Act) (d : Tmp) (v : Value) w, Q (.panic c) (a.put (some d) v) w → Q (.panic c) a w) (hw : Region.wanted oi (yielded ops a.tmps) = true) (hS : S w)
 {b o : Nat} (hx : a.eval x = .pointer (some ⟨b, o, none⟩)) (cs : Array Value) {t : TypeDesc} (hu : P.underlying ty = some t) (ht : t.isRow = true) (hz : (P.info? ty).map (·.size) = some cs.size)
 (hc : ∀ w, S w → w.rangeAt b o cs.toList)
 (h : wpAnyH P md ops Q S fuel (listed.setIfInBounds i true) (a.put (some d) (.agg cs)) w) : wpAnyH P md ops Q S (fuel + 1) listed a w := by
 refine wpAnyH_take hi hs hf hr (fun c a w hq => hQ c a d _ w (by rw [hd] at hq; exact hq)) (yieldsIf_load_mid hw ty x hop b o hx cs.toList _ hc hu ht (by rw [hz, Array.length_toList])) hS ?_
 rw [hd]
 simpa using h
theorem comeH (i : Nat) {oi : Oper} {op : Op} {ty : TypeId} {d : Option Tmp} (hi : ops[i]? = some oi) (hop : oi.op = op) (hty : oi.type = ty) (hd : oi.dst = d)
 (hr : Region.ready md ops listed = [i]) (hw : Region.wanted oi (yielded ops a.tmps) = true)
 (h : ∀ K' : Act → World → Prop, Shut (∀ a w, S w → (S w → wpAnyH P md ops Q S fuel (listed.setIfInBounds i true) a w) → K' a w) → Oper.wp P { bareOp op ty with dst := d } a w K' Q) : wpAnyH P md ops Q S (fuel + 1) listed a w := by
 subst hop hty hd
 refine wpAnyH_ready hr (by simp) (AllReadyH.cons hi (fun K hK => ?_) AllReadyH.nil)
 rw [if_pos hw]
 exact h K hK
end
end Go.Proofs.Ytjggmimaolddkaa
