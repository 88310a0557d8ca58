/-
  Chapter 3: contracts of tumblerref03.Bytes and instr.Encode.
-/
import Derived.Test.YtkkbgpfimapnoaaCtrH
import Derived.Deep.DeepMust
namespace Go.Proofs.Ytkkbgpfimapnoaa
open Go.RowKit
set_option linter.unusedVariables false

/-- An instruction's bytes; a program's bytes. -/
def insB (i : Ins) : List Int := [i.op, i.a, i.b, i.c] ++ numL i.imm 8
def bodyB (l : List Ins) : List Int := l.flatMap insB
def progB (l : List Ins) : List Int := [84, 66] ++ numL l.length 2 ++ bodyB l
theorem bodyB_snoc (l : List Ins) (i : Ins) : bodyB (l ++ [i]) = bodyB l ++ insB i := by simp [bodyB]
theorem insB_length (i : Ins) : (insB i).length = 12 := by simp [insB, numL_length]
theorem bodyB_length (l : List Ins) : (bodyB l).length = 12 * l.length := by
  induction l with
  | nil => rfl
  | cons i l ih =>
    show (insB i ++ bodyB l).length = _
    rw [List.length_append, ih, insB_length]; simp; omega

theorem plain_bd {i : Ins} (h : i.plain = true) : (0 ≤ i.op ∧ i.op ≤ 21) ∧ (0 ≤ i.a ∧ i.a ≤ 15) ∧ (0 ≤ i.b ∧ i.b ≤ 15) ∧ (0 ≤ i.c ∧ i.c ≤ 15) := by
  simp [Ins.plain, plainB, fieldB] at h
  omega

theorem take_succ_at {α : Type} {l : List α} {k : Nat} {x : α} (h : l[k]? = some x) : l.take (k + 1) = l.take k ++ [x] := by
  have hk : k < l.length := (List.getElem?_eq_some_iff.1 h).1
  rw [List.take_succ_eq_append_getElem hk]
  rw [List.getElem?_eq_getElem hk] at h
  injection h with h
  rw [h]

theorem bytes_any (l : List Ins) (A : Option Addr) (n c : Nat) (w : World) (hr : RdI w w.heap.size A n l) (hp : l.all Ins.plain = true) (hok : ∀ i ∈ l, i.Ok) (hn : n ≤ 256) :
    Calls Try.prog 16 #[.slice A n c] w fun e w' => ∃ v, e = .returned v ∧ w'.ownsRow w.heap.size 5 1 v (4 + 12 * n) (byt (progB l)) ∧ Below w.heap.size w w' := by
  obtain ⟨i0, hi0, hz0, hz1, hz2⟩ := info_parts info_u8
  have HL := Lib.hid hr.insLen
  have HR := Lib.hid hr
  have HP := Lib.hid hp
  have HK := Lib.hid hok
  clear hr hp hok
  have kc := fun (w : World) (C : Array Value) (n c : Nat) => Lib.run_convert_bytes_const (P := Try.prog) w 23 5 C n c Try.underlying23 Try.underlying5
  go_enter Try.func16, Try.ntmps16
  go_wp2_with fail
  refine (num_any n 2 2 _ (by omega) (by omega) (by omega) rfl).mono ?_
  rintro e w1 ⟨v1, rfl, hown1, hb1⟩
  have hz1' : w.heap.size < w1.heap.size := by have := hb1.size; simp at this; omega
  obtain ⟨A1, c1, rfl, hr1⟩ := Rd.of_own hown1
  have HT := Lib.hid ((Rd.marked w #[.int .u8 84, .int .u8 66] 5 (2, 3) (size := 1) (m := 2) rfl (by simp [maxLen])).below (w' := w1) (hb1.mono (by simp)))
  have HB1 := Lib.hid (((Below.refl w.heap.size w).alloc (Nat.le_refl _) (.cells #[.int .u8 84, .int .u8 66] 5 (2, 3))).trans (hb1.mono (by simp)))
  have HR1 := Lib.hid hr1
  clear hown1 hb1 hr1
  go_wp2_with (
    at_builtin
    refine wpList_app_full _ rfl (.tmp 7) (.tmp 11) 23 rfl w.heap.size 5 i0 _ 1 1 Try.underlying23 hi0 hz0 hz1 hz2 rfl _ _ 2 _ rfl HT.out (by omega) _ _ 2 _ (byt (numL n 2)) rfl HR1.out (by omega) ?_ ?_ ?_ ?_
    · simp only [maxLen]; omega
    · omega
    · omega
    intro v' w2 hown2 hg2 _
    have HO2 := Lib.hid hown2
    have HB2 := Lib.hid (HB1.out.trans (hg2.mono (by omega)))
    clear hown2 hg2)
  go_loopw [3, 4] (fun v k wr => ∃ j : Nat, j ≤ n ∧ k = .int .i64 j ∧ wr.ownsRow w.heap.size 5 1 v (4 + 12 * j) (byt ([84, 66] ++ numL n 2 ++ bodyB (l.take j))) ∧ Below w.heap.size w wr) (fun _ k _ => n - (intOf k).toNat)
  case atStart => exact ⟨0, by omega, rfl, by simpa [bodyB, byt] using HO2.out, HB2.out⟩
  case round =>
    obtain ⟨j, hj, rfl, hown, hb⟩ := hrel
    have hsz := hb.size
    have HB := Lib.hid hb
    have HO := Lib.hid hown
    clear hb hown
    by_cases hlt : j < n
    · obtain ⟨b, o, i, rfl, hbB, hi, d0, d1, d2, d3, d4⟩ := (HR.out.below HB.out).insAt hlt
      have hm := List.mem_of_getElem? hi
      have hpl := plain_bd (List.all_eq_true.1 HP.out i hm)
      obtain ⟨⟨op0, op1⟩, ⟨a0, a1⟩, ⟨b0, b1⟩, ⟨c0, c1'⟩⟩ := hpl
      obtain ⟨m0, m1⟩ := (HK.out i hm).imm
      have HI := Lib.hid (take_succ_at hi)
      clear hi hm
      have hz2' : w.heap.size ≤ ((wr.alloc (.cells #[.int .i64 i.op, .int .i64 i.a, .int .i64 i.b, .int .i64 i.c, .int .u64 i.imm] 47)).alloc (.cells #[.int .u8 i.op, .int .u8 i.a, .int .u8 i.b, .int .u8 i.c] 5)).heap.size := by simp; omega
      have HO2' := Lib.hid ((HO.out.alloc (.cells #[.int .i64 i.op, .int .i64 i.a, .int .i64 i.b, .int .i64 i.c, .int .u64 i.imm] 47)).alloc (.cells #[.int .u8 i.op, .int .u8 i.a, .int .u8 i.b, .int .u8 i.c] 5))
      have HB2' := Lib.hid ((HB.out.alloc hsz (.cells #[.int .i64 i.op, .int .i64 i.a, .int .i64 i.b, .int .i64 i.c, .int .u64 i.imm] 47)).alloc (by simp; omega) (.cells #[.int .u8 i.op, .int .u8 i.a, .int .u8 i.b, .int .u8 i.c] 5))
      have K2 := Lib.hid ((Bk.new wr 47 #[.int .i64 i.op, .int .i64 i.a, .int .i64 i.b, .int .i64 i.c, .int .u64 i.imm]).alloc (.cells #[.int .u8 i.op, .int .u8 i.a, .int .u8 i.b, .int .u8 i.c] 5))
      have R3 : Hid (RdB ((wr.alloc (.cells #[.int .i64 i.op, .int .i64 i.a, .int .i64 i.b, .int .i64 i.c, .int .u64 i.imm] 47)).alloc (.cells #[.int .u8 i.op, .int .u8 i.a, .int .u8 i.b, .int .u8 i.c] 5)) (wr.heap.size + 2) (some ⟨wr.heap.size + 1, 0, none⟩) 4 [i.op, i.a, i.b, i.c]) :=
        Rd.newAt (wr.alloc (.cells #[.int .i64 i.op, .int .i64 i.a, .int .i64 i.b, .int .i64 i.c, .int .u64 i.imm] 47)) #[.int .u8 i.op, .int .u8 i.a, .int .u8 i.b, .int .u8 i.c] 5 (wr.heap.size + 1) (by simp) (size := 1) (m := 4) rfl (by simp [maxLen])
      have hne : (5 : TypeId) ≠ 47 := by decide
      have tok1 : True := trivial
      go_wp2_with (first
        | (at_builtin
           have _t := tok1
           go_must (
             refine wpList_app _ rfl (.tmp 23) (.tmp 36) 23 rfl w.heap.size 5 i0 _ 1 1 Try.underlying23 hi0 hz0 hz1 hz2 rfl (by omega) _ (4 + 12 * j) _ rfl HO2'.out _ _ 4 _ (byt [i.op, i.a, i.b, i.c]) rfl R3.out (byt_one _) ?_ ?_ ?_ ?_
             · simp only [maxLen]; omega
             · omega
             · exact hz2'
             intro v3 w3 hown3 hg3 _
             have HO3 := Lib.hid hown3
             have HB3 := Lib.hid (below_own HB2'.out HO2'.out hg3 (Nat.le_refl _) hz2')
             have HK3 := Lib.hid (K2.out.grown hg3 (Bk.ne_own K2.out HO2'.out hne))
             have hc3 : w3.cell? ⟨wr.heap.size, 4, none⟩ = some (.int .u64 i.imm) := HK3.out.cell 4
             have hz3 := HB3.out.size
             clear hown3 hg3
             clear _t tok1))
        | (go_at_call 42
           refine (num_any i.imm 8 8 _ m0 m1 (by omega) rfl).mono ?_
           rintro e w4 ⟨v4, rfl, hown4, hb4⟩
           obtain ⟨A4, c4, rfl, hr4⟩ := Rd.of_own hown4
           have HR4 := Lib.hid hr4
           have hz4 := hb4.size
           have HB4 := Lib.hid hb4
           clear hown4 hr4 hb4)
        | (at_builtin
           refine wpList_app _ rfl (.tmp 38) (.tmp 41) 23 rfl w.heap.size 5 i0 _ 1 1 Try.underlying23 hi0 hz0 hz1 hz2 rfl (by omega) _ (4 + 12 * j + 4) _ rfl (own_below HO3.out HB4.out) _ _ 8 _ (byt (numL i.imm 8)) rfl HR4.out (byt_one _) ?_ ?_ ?_ ?_
           · simp only [maxLen]; omega
           · omega
           · omega
           intro v5 w5 hown5 hg5 _
           have HO5 := Lib.hid hown5
           have HB5 := Lib.hid (below_own (HB3.out.trans (HB4.out.mono hz3)) (own_below HO3.out HB4.out) hg5 (Nat.le_refl _) (by omega))
           clear hown5 hg5))
      go_roundw
      case rel =>
        refine ⟨j + 1, by omega, by go_num, ?_, HB5.out⟩
        rw [HI.out, bodyB_snoc, insB]
        have h := HO5.out
        simp only [byt_append, List.append_assoc] at h ⊢
        have e : 4 + 12 * j + 4 + 8 = 4 + 12 * (j + 1) := by omega
        rw [e] at h
        exact h
      case measure => simp [intOf]; omega
    · obtain rfl : j = n := by omega
      have E : Hid (bodyB (l.take j) = bodyB l) := by
        show _ = _
        rw [List.take_of_length_le (by rw [HL.out]; omega)]
      go_wp2
      go_ret
      refine ⟨_, rfl, ?_, HB.out⟩
      have h := HO.out
      rw [E.out] at h
      rw [progB, HL.out]
      exact h
end Go.Proofs.Ytkkbgpfimapnoaa
