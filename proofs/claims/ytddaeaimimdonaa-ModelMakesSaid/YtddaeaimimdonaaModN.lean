/-
  Chapter 6: State.Handles where there is one block at most.
-/
import Derived.Test.YtddaeaimimdonaaModI
import Derived.Test.YtddaeaimimdonaaModM
namespace Go.Proofs.Ytddaeaimimdonaa
open Go.RowKit Go.Maps
set_option linter.unusedVariables false

theorem insert_one (A : Option Addr) (n c : Nat) (w : World) (hn : n ≤ 1) :
    Calls Try.prog 82 #[.slice A n c, .int .i64 0, .int .i64 n] w fun e w' => (∃ v, e = .returned v) ∧ w' = w := by
  have hlt : ¬ ((1 : Int) < n) := by omega
  go_enter Try.func82, Try.ntmps82
  go_wp2
  refine wp_loop_rounds 1 ?_
  rw [rounds_succ]
  go_wp2
  go_end0
  exact ⟨⟨_, rfl⟩, rfl⟩
theorem pdq_one (A : Option Addr) (n c : Nat) (lim : Int) (w : World) (hn : n ≤ 1) :
    Calls Try.prog 72 #[.slice A n c, .int .i64 0, .int .i64 n, .int .i64 lim] w fun e w' => (∃ v, e = .returned v) ∧ w' = w := by
  have h12 : (n : Int) ≤ 12 := by omega
  have hs : IntKind.i64.wrap (n : Int) = n := IntWalk.i64_in _ (by omega)
  go_enter Try.func72, Try.ntmps72
  go_wp2
  refine wp_loop_rounds 1 ?_
  rw [rounds_succ]
  go_wp2_with fail
  refine (insert_one A n c _ hn).mono ?_
  rintro e w' ⟨⟨v, rfl⟩, rfl⟩
  go_wp2
  refine bodyPost_ret (results_none rfl _ _ _) rfl ⟨⟨_, rfl⟩, rfl⟩
theorem sort_one (A : Option Addr) (n c : Nat) (w : World) (hn : n ≤ 1) :
    Calls Try.prog 58 #[.slice A n c] w fun e w' => (∃ v, e = .returned v) ∧ w' = w := by
  have h64 : IntKind.u64.wrap (n : Int) = n := by rw [IntKind.wrap_u64]; omega
  go_enter Try.func58, Try.ntmps58
  go_wp2_with fail
  refine (Try.bits_Len (n : Int) _ (by omega) (by omega)).mono ?_
  rintro e w' ⟨rfl, rfl⟩
  go_wp2_with fail
  refine (pdq_one A n c _ _ hn).mono ?_
  rintro e w' ⟨⟨v, rfl⟩, rfl⟩
  go_wp2
  go_end0
  exact ⟨⟨_, rfl⟩, rfl⟩
/-- All handles, rising. -/
def HandlesPost (f : Int → Option (List Int)) (w : World) (e : Ending) (w' : World) : Prop :=
  ∃ (v : Value) (ss : List Int), e = .returned v ∧ KeysOf f ss ∧ ss.Pairwise (· < ·) ∧ w'.ownsRow w.heap.size 24 1 v ss.length (u64s ss) ∧ Below w.heap.size w w'
theorem short_rising {l : List Int} (h : l.length ≤ 1) : l.Pairwise (· < ·) := by
  match l, h with
  | [], _ => exact List.Pairwise.nil
  | [x], _ => exact List.pairwise_singleton _ _
set_option maxRecDepth 100000 in
theorem sorted_one (Bm b m : Nat) (f : Int → Option (List Int)) (w : World) (hBm : Bm < w.heap.size)
    (hm : w.cell? ⟨Bm, 0, none⟩ = some (.map (some b))) (hown : OwnB w Try.prog 24 b m f) (hb : m ≤ 1000000000000) (hone : ∀ ss, KeysOf f ss → ss.length ≤ 1) :
    Calls Try.prog 38 #[.func (.func 59) #[] #[.pointer (some ⟨Bm, 0, none⟩)]] w (HandlesPost f w) := by
  go_enter Try.func38, Try.ntmps38
  go_wp2_with fail
  refine (collect_any Bm b m f _ hBm hm hown hb).mono ?_
  rintro e w2 ⟨v, ss, rfl, hS, hrow, hb2⟩
  have HS := Lib.hid hS
  have h1 := hone ss hS
  obtain ⟨A, c, rfl, _⟩ := Rd.of_own hrow
  have HRow := Lib.hid hrow
  have HB2 := Lib.hid hb2
  clear hS hrow hb2
  go_wp2_with fail
  refine (sort_one A ss.length c _ h1).mono ?_
  rintro e w3 ⟨⟨v, rfl⟩, rfl⟩
  go_wp2
  go_ret
  exact ⟨_, ss, rfl, HS.out, short_rising h1, HRow.out, HB2.out⟩
set_option maxRecDepth 100000 in
theorem handles_one (B n sb mb : Nat) (s : MSt) (w : World) (h : StIn w B n sb mb s) (hn : n ≤ 1000000000000) (hone : ∀ ss, KeysOf s.blocks ss → ss.length ≤ 1) :
    Calls Try.prog 20 #[.pointer (some ⟨sb, 0, none⟩)] w (HandlesPost s.blocks w) := by
  have kM : w.cell? ⟨sb, 16, none⟩ = some (.map (some mb)) := h.st.map h.roots
  have HM := Lib.hid h.map
  clear h
  go_enter Try.func20, Try.ntmps20
  go_wp2_with fail
  refine (keys_any mb _).mono ?_
  rintro e w1 ⟨rfl, hw1⟩
  have hb1 : Below w.heap.size w w1 := by rw [hw1]; exact (Below.refl _ _).alloc (Nat.le_refl _) _
  have hc1 : w1.cell? ⟨w.heap.size, 0, none⟩ = some (.map (some mb)) := by rw [hw1]; exact World.cell?_alloc_at _ _ _ _ rfl
  have hz1 : w.heap.size < w1.heap.size := by rw [hw1]; simp
  have HM1 := Lib.hid (HM.out.below hb1)
  have HB1 := Lib.hid hb1
  have HC1 := Lib.hid hc1
  clear hw1 hb1 hc1
  go_wp2_with fail
  refine (sorted_one w.heap.size mb n s.blocks _ hz1 HC1.out HM1.out hn hone).mono ?_
  rintro e w2 ⟨v, ss, rfl, hS, hsr, hrow, hb2⟩
  have HS := Lib.hid hS
  have HSr := Lib.hid hsr
  have HRow := Lib.hid hrow
  have HB2 := Lib.hid (HB1.out.trans (hb2.mono HB1.out.size))
  clear hS hrow hb2 hsr
  go_wp2
  go_ret
  exact ⟨_, ss, rfl, HS.out, HSr.out, own_base HRow.out (Nat.le_of_lt hz1), HB2.out⟩
end Go.Proofs.Ytddaeaimimdonaa
