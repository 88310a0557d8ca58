/-
  Chapter 6: State.Handles, however many blocks there are.
-/
import Derived.Test.YtddaeaimimdonaaModN
import Derived.Test.YtddaeaimimdonaaSrtG
namespace Go.Proofs.Ytddaeaimimdonaa
open Go.RowKit Go.Maps
set_option linter.unusedVariables false

theorem nodup_len : ∀ (n : Nat) (l : List Int), l.Nodup → (∀ x ∈ l, 0 ≤ x ∧ x < (n : Int)) → l.length ≤ n
  | 0, [], _, _ => Nat.le_refl _
  | 0, x :: l, _, h => by have := h x (by simp); omega
  | n + 1, l, hn, h => by
    have h1 := nodup_len n (l.erase (n : Int)) (hn.erase _) (fun x hx => by
      have hx2 := (hn.mem_erase_iff).1 hx
      have := h x hx2.2
      omega)
    have h2 := List.length_erase (a := (n : Int)) (l := l)
    split at h2 <;> omega
theorem row_holds {w : World} {g : Nat} {cur : Array Value} {e : TypeId} {ss : List Int} (hb : w.heap[g]? = some (.cells cur e (0, 0))) (ht : cur.toList.take ss.length = u64s ss) : Sort.Holds (Value.int .u64) w g 0 ss.toArray := fun j hj => by
  have hj' : j < ss.length := by simpa using hj
  have h1 : (cur.toList.take ss.length)[j]? = (u64s ss)[j]? := by rw [ht]
  rw [List.getElem?_take_of_lt hj'] at h1
  refine ⟨?_, by simp [World.frozen?, hb]⟩
  simp only [World.cell?, hb, Nat.zero_add, Option.isSome_none, Bool.false_eq_true, if_false]
  rw [← Array.getElem?_toList, h1]
  simp [u64s, hj']
theorem row_turned {w : World} {base g cap n : Nat} {e : TypeId} {os : Array Obj} {cur : Array Value} {ss ts : List Int} (hl : ts.length = ss.length) (hbase : base ≤ g) (hb : w.heap[g]? = some (.cells cur e (0, 0))) (h1 : ss.length ≤ cap) (h2 : cap ≤ maxLen) (h3 : cur.size = cap * 1) :
    (Sort.grow (Sort.putRow (Value.int .u64) (Sort.ahead w n) g 0 ts.toArray) os).ownsRow base e 1 (.slice (some ⟨g, 0, none⟩) ss.length cap) ss.length (u64s ts) := by
  have hg : g < w.heap.size := (Array.getElem?_eq_some_iff.1 hb).1
  refine ⟨by simp [u64s, hl], .inr ⟨g, cap, Sort.putCells (Value.int .u64) 0 ts.toArray cur, rfl, hbase, ?_, h1, h2, by simp [Sort.putCells, h3], ?_⟩⟩
  · rw [Sort.heap_grow_old _ _ (by simpa using hg)]
    simp [Sort.putRow, Sort.mapBlock, Sort.ahead, Array.getElem?_modify, hb, Sort.onCells]
  · rw [Nat.mul_one, ← hl]
    apply List.ext_getElem?
    intro j
    by_cases hj : j < ts.length
    · rw [List.getElem?_take_of_lt hj, Array.getElem?_toList]
      simp [Sort.putCells, u64s, hj, show j < cur.size by omega]
    · rw [List.getElem?_take_eq_none (by omega), List.getElem?_eq_none (by simp [u64s]; omega)]
theorem grown_turned {w : World} {g n : Nat} {os : Array Obj} (d : Array Int) : w.grownBy (Sort.grow (Sort.putRow (Value.int .u64) (Sort.ahead w n) g 0 d) os) (some g) := by
  refine ⟨rfl, rfl, rfl, by simp, fun k hk hne => ?_⟩
  rw [Sort.heap_grow_old _ _ (by simpa using hk)]
  have : g ≠ k := fun e => hne (by rw [e])
  simp [Sort.putRow, Sort.mapBlock, Sort.ahead, Array.getElem?_modify, this]
def sortZ (l : List Int) : List Int := l.mergeSort fun x y => decide (x ≤ y)
theorem sortZ_perm (l : List Int) : (sortZ l).Perm l := List.mergeSort_perm l _
theorem sortZ_len (l : List Int) : (sortZ l).length = l.length := by simp [sortZ]
theorem sortZ_le (l : List Int) : (sortZ l).Pairwise fun x y => x ≤ y := by
  have h := List.pairwise_mergeSort (le := fun x y : Int => decide (x ≤ y)) (fun a b c h1 h2 => by simp at *; omega) (fun a b => by simp; omega) l
  exact h.imp fun hab => by simpa using hab
theorem sortZ_lt {l : List Int} (h : l.Nodup) : (sortZ l).Pairwise fun x y => x < y := by
  have h1 := sortZ_le l
  have h2 : (sortZ l).Nodup := (sortZ_perm l).nodup_iff.2 h
  exact (h1.and h2).imp fun ⟨a, b⟩ => by
    have : ¬ _ = _ := b
    omega
theorem sortZ_short {l : List Int} (h : l.length ≤ 1) : sortZ l = l := by
  match l, h with
  | [], _ => exact List.Perm.eq_nil (sortZ_perm [])
  | [x], _ => exact List.perm_singleton.1 (sortZ_perm [x])
theorem sort_u64s (base : Nat) (v : Value) (ss : List Int) (w : World) (h : w.ownsRow base 24 1 v ss.length (u64s ss)) (hl : ss.length ≤ 1000000000000) :
    Calls Try.prog 58 #[v] w fun e w' => (∃ u, e = .returned u) ∧ w'.ownsRow base 24 1 v ss.length (u64s (sortZ ss)) ∧ w.grownBy w' v.ownBlock := by
  by_cases h1 : ss.length ≤ 1
  · obtain ⟨A, c, rfl, _⟩ := Rd.of_own h
    refine (sort_one A ss.length c _ h1).mono ?_
    rintro e w' ⟨he, rfl⟩
    rw [sortZ_short h1]
    exact ⟨he, h, World.grownBy.refl _ _⟩
  · rcases h.2 with ⟨_, h0⟩ | ⟨g, cap, cur, rfl, hbase, hb, g1, g2, g3, g4⟩
    · omega
    rw [Nat.mul_one] at g4
    refine (srt_Sort g 0 cap ss w (row_holds hb g4) (Array.getElem?_eq_some_iff.1 hb).1 (by omega)).mono ?_
    rintro e w' ⟨rfl, n, os, rfl⟩
    exact ⟨⟨_, rfl⟩, row_turned (sortZ_len ss) hbase hb g1 g2 g3, grown_turned _⟩
theorem keysOf_perm {f : Int → Option (List Int)} {ss ts : List Int} (h : KeysOf f ss) (hp : ts.Perm ss) : KeysOf f ts := ⟨hp.nodup_iff.2 h.1, fun x => (hp.mem_iff).trans (h.2 x)⟩
set_option maxRecDepth 100000 in
theorem sorted_any (Bm b m : Nat) (f : Int → Option (List Int)) (w : World) (hBm : Bm < w.heap.size)
    (hm : w.cell? ⟨Bm, 0, none⟩ = some (.map (some b))) (hown : OwnB w Try.prog 24 b m f) (hb : m ≤ 1000000000000) (hlen : ∀ ss, KeysOf f ss → ss.length ≤ 1000000) :
    Calls Try.prog 38 #[.func (.func 59) #[] #[.pointer (some ⟨Bm, 0, none⟩)]] w (HandlesPost f w) := by
  go_enter Try.func38, Try.ntmps38
  go_wp2_with fail
  refine (collect_any Bm b m f _ hBm hm hown hb).mono ?_
  rintro e w2 ⟨v, ss, rfl, hS, hrow, hb2⟩
  have HS := Lib.hid hS
  have h1 := hlen ss hS
  have HRow := Lib.hid hrow
  have HB2 := Lib.hid hb2
  clear hS hrow hb2
  go_wp2_with fail
  refine (sort_u64s w.heap.size v ss _ HRow.out (by omega)).mono ?_
  rintro e w3 ⟨⟨v3, rfl⟩, hrow3, hg3⟩
  have HRow3 := Lib.hid hrow3
  have HB3 := Lib.hid (below_own HB2.out HRow.out hg3 (Nat.le_refl _) HB2.out.size)
  clear hrow3 hg3
  go_wp2
  go_ret
  exact ⟨_, sortZ ss, rfl, keysOf_perm HS.out (sortZ_perm ss), sortZ_lt HS.out.1, by rw [sortZ_len]; exact HRow3.out, HB3.out⟩
set_option maxRecDepth 100000 in
theorem handles_many (B n sb mb : Nat) (s : MSt) (w : World) (h : StIn w B n sb mb s) (hn : n ≤ 1000000000000) (hlen : ∀ ss, KeysOf s.blocks ss → ss.length ≤ 1000000) :
    Calls Try.prog 20 #[.pointer (some ⟨sb, 0, none⟩)] w (HandlesPost s.blocks w) := by
  have kM : w.cell? ⟨sb, 16, none⟩ = some (.map (some mb)) := h.st.map h.roots
  have HM := Lib.hid h.map
  clear h
  go_enter Try.func20, Try.ntmps20
  go_wp2_with fail
  refine (keys_any mb _).mono ?_
  rintro e w1 ⟨rfl, hw1⟩
  have hb1 : Below w.heap.size w w1 := by rw [hw1]; exact (Below.refl _ _).alloc (Nat.le_refl _) _
  have hc1 : w1.cell? ⟨w.heap.size, 0, none⟩ = some (.map (some mb)) := by rw [hw1]; exact World.cell?_alloc_at _ _ _ _ rfl
  have hz1 : w.heap.size < w1.heap.size := by rw [hw1]; simp
  have HM1 := Lib.hid (HM.out.below hb1)
  have HB1 := Lib.hid hb1
  have HC1 := Lib.hid hc1
  clear hw1 hb1 hc1
  go_wp2_with fail
  refine (sorted_any w.heap.size mb n s.blocks _ hz1 HC1.out HM1.out hn hlen).mono ?_
  rintro e w2 ⟨v, ss, rfl, hS, hsr, hrow, hb2⟩
  have HS := Lib.hid hS
  have HSr := Lib.hid hsr
  have HRow := Lib.hid hrow
  have HB2 := Lib.hid (HB1.out.trans (hb2.mono HB1.out.size))
  clear hS hrow hb2 hsr
  go_wp2
  go_ret
  exact ⟨_, ss, rfl, HS.out, HSr.out, own_base HRow.out (Nat.le_of_lt hz1), HB2.out⟩
end Go.Proofs.Ytddaeaimimdonaa
