/-
  Chapter 3: contract of instr.Encode.
-/
import Derived.Test.YtkkbgpfimapnoaaCtrI
namespace Go.Proofs.Ytkkbgpfimapnoaa
open Go.RowKit
set_option linter.unusedVariables false

def encCode (l : List Ins) : Int := if 256 < l.length then 3 else if l.all Ins.plain then 0 else 30
def encBytes (l : List Ins) : List Int := if encCode l = 0 then progB l else []

theorem pow_8q (q : Nat) : (2 : Int) ^ (8 * q) = 256 ^ q := by rw [Int.pow_mul]; rfl
/-- What Encode comes to. -/
def EncPost (l : List Ins) (w : World) (e : Ending) (w' : World) : Prop :=
  ∃ v m, e = .returned (.tuple #[v, .int .i64 (encCode l)]) ∧ w'.ownsRow w.heap.size 5 1 v m (byt (encBytes l)) ∧ Below w.heap.size w w'
theorem EncPost.bad {l : List Ins} {w w' : World} (h : encCode l ≠ 0) (hb : Below w.heap.size w w') : EncPost l w (.returned (.tuple #[.slice none 0 0, .int .i64 (encCode l)])) w' :=
  ⟨_, 0, rfl, by rw [encBytes, if_neg h]; exact World.ownsRow_nil _ _ _ _, hb⟩
theorem encCode_plain {l : List Ins} (hn : l.length ≤ 256) : encCode l = if l.all Ins.plain then 0 else 30 := by rw [encCode, if_neg (by omega)]

theorem encode_go (l : List Ins) (A : Option Addr) (n c : Nat) (w : World) (hr : RdI w w.heap.size A n l) (hok : ∀ i ∈ l, i.Ok) (hn : n ≤ 256) :
    Calls Try.prog 14 #[.slice A n c] w (EncPost l w) := by
  obtain ⟨i0, hi0, hz0, hz1, hz2⟩ := info_parts info_u8
  have HL := Lib.hid hr.insLen
  have HR := Lib.hid hr
  have HK := Lib.hid hok
  clear hr hok
  go_enter Try.func14, Try.ntmps14
  go_wp2
  go_loopw [4, 21] (fun v k wr => ∃ j : Nat, j ≤ n ∧ k = .int .i64 j ∧ wr.ownsRow w.heap.size 5 1 v (4 + 12 * j) (byt ([84, 66] ++ numL n 2 ++ bodyB (l.take j))) ∧ Below w.heap.size w wr ∧ Hid (∀ q i, q < j → l[q]? = some i → i.plain = true)) (fun _ k _ => n - (intOf k).toNat)
  case atStart =>
    refine ⟨0, by omega, rfl, ?_, (Below.refl _ _).alloc (Nat.le_refl _) _, fun q i hq => by omega⟩
    have e : ([84, 66] ++ numL (n : Int) 2 ++ bodyB (l.take 0)) = [84, 66, (n : Int) % 256, (n : Int) / 256] := by
      simp [numL, List.range_succ, bodyB]; omega
    rw [e]
    exact own_new w _ _ rfl (by simp [maxLen]) (Nat.le_refl _)
  case round =>
    obtain ⟨wo, rfl⟩ : ∃ wo : World, wo = wr := ⟨_, rfl⟩
    obtain ⟨j, hj, rfl, hown, hb, hall⟩ := hrel
    have hsz := hb.size
    have HB := Lib.hid hb
    have HO := Lib.hid hown
    clear hb hown
    by_cases hlt : j < n
    · obtain ⟨b, o, i, rfl, hbB, hi, d0, d1, d2, d3, d4⟩ := (HR.out.below HB.out).insAt hlt
      have hm := List.mem_of_getElem? hi
      have HI := Lib.hid (take_succ_at hi)
      have HA := Lib.hid hi
      obtain ⟨m0, m1⟩ := (HK.out i hm).imm
      go_wp2_with fail
      refine (plain_any _ _ _ _ _ _).mono ?_
      rintro e w1 ⟨rfl, hb1⟩
      have hw1 : wo.heap.size < w1.heap.size := by have := hb1.size; simp at this; omega
      have HB1 := Lib.hid ((HB.out.alloc hsz (.cells #[.int .i64 i.op, .int .i64 i.a, .int .i64 i.b, .int .i64 i.c, .int .u64 i.imm] 47)).trans (hb1.mono (by simp; omega)))
      have HO1 := Lib.hid (own_below (HO.out.alloc (.cells #[.int .i64 i.op, .int .i64 i.a, .int .i64 i.b, .int .i64 i.c, .int .u64 i.imm] 47)) hb1)
      have K1 := Lib.hid ((Bk.new wo 47 #[.int .i64 i.op, .int .i64 i.a, .int .i64 i.b, .int .i64 i.c, .int .u64 i.imm]).below hb1 (by simp))
      clear hb1
      cases hp : plainB i.op i.a i.b i.c i.imm
      · have E : Hid (encCode l = 30) := by
          show _ = _
          rw [encCode_plain (by rw [HL.out]; exact hn), List.all_eq_false.2 ⟨i, hm, by simp [Ins.plain, hp]⟩]; rfl
        clear hi hm
        go_wp2
        go_ret2
        have := EncPost.bad (l := l) (by rw [E.out]; decide) HB1.out
        rw [E.out] at this
        exact this
      · have hpl := plain_bd (i := i) hp
        clear hi hm
        obtain ⟨⟨op0, op1⟩, ⟨a0, a1⟩, ⟨b0, b1⟩, ⟨c0, c1'⟩⟩ := hpl
        have e0 : w1.cell? ⟨wo.heap.size, 0, none⟩ = some (.int .i64 i.op) := K1.out.cell 0
        have e1 : w1.cell? ⟨wo.heap.size, 1, none⟩ = some (.int .i64 i.a) := K1.out.cell 1
        have e2 : w1.cell? ⟨wo.heap.size, 2, none⟩ = some (.int .i64 i.b) := K1.out.cell 2
        have e3 : w1.cell? ⟨wo.heap.size, 3, none⟩ = some (.int .i64 i.c) := K1.out.cell 3
        have hz2' : w.heap.size ≤ (w1.alloc (.cells #[.int .u8 i.op, .int .u8 i.a, .int .u8 i.b, .int .u8 i.c] 5)).heap.size := by simp; omega
        have HO2' := Lib.hid (HO1.out.alloc (.cells #[.int .u8 i.op, .int .u8 i.a, .int .u8 i.b, .int .u8 i.c] 5))
        have HB2' := Lib.hid (HB1.out.alloc (by omega) (.cells #[.int .u8 i.op, .int .u8 i.a, .int .u8 i.b, .int .u8 i.c] 5))
        have K2 := Lib.hid (K1.out.alloc (.cells #[.int .u8 i.op, .int .u8 i.a, .int .u8 i.b, .int .u8 i.c] 5))
        have R3 : Hid (RdB (w1.alloc (.cells #[.int .u8 i.op, .int .u8 i.a, .int .u8 i.b, .int .u8 i.c] 5)) (w1.heap.size + 1) (some ⟨w1.heap.size, 0, none⟩) 4 [i.op, i.a, i.b, i.c]) :=
          Rd.new w1 #[.int .u8 i.op, .int .u8 i.a, .int .u8 i.b, .int .u8 i.c] 5 (size := 1) (m := 4) rfl (by simp [maxLen])
        have hne : (5 : TypeId) ≠ 47 := by decide
        have tok1 : True := trivial
        go_wp2_with (
          at_builtin
          have _t := tok1
          go_must (
            refine wpList_app _ rfl (.tmp 28) (.tmp 41) 23 rfl w.heap.size 5 i0 _ 1 1 Try.underlying23 hi0 hz0 hz1 hz2 rfl (by omega) _ (4 + 12 * j) _ rfl HO2'.out _ _ 4 _ (byt [i.op, i.a, i.b, i.c]) rfl R3.out (byt_one _) ?_ ?_ ?_ ?_
            · simp only [maxLen]; omega
            · omega
            · exact hz2'
            intro v3 w3 hown3 hg3 _
            have HO3 := Lib.hid hown3
            have HB3 := Lib.hid (below_own HB2'.out HO2'.out hg3 (Nat.le_refl _) hz2')
            have HK3 := Lib.hid (K2.out.grown hg3 (Bk.ne_own K2.out HO2'.out hne))
            clear hown3 hg3 _t tok1))
        go_loopw [4, 7, 43] (fun v _ k wi => ∃ q : Nat, q ≤ 8 ∧ k = .int .i64 q ∧ wi.ownsRow w.heap.size 5 1 v (4 + 12 * j + 4 + q) (byt ([84, 66] ++ numL n 2 ++ bodyB (l.take j)) ++ byt [i.op, i.a, i.b, i.c] ++ byt (numL i.imm q)) ∧ Below w.heap.size w wi ∧ Bk wi wo.heap.size 47 #[.int .i64 i.op, .int .i64 i.a, .int .i64 i.b, .int .i64 i.c, .int .u64 i.imm]) (fun _ _ k _ => 8 - (intOf k).toNat)
        case atStart => exact ⟨0, by omega, rfl, by simpa [byt, numL] using HO3.out, HB3.out, HK3.out⟩
        case round =>
          obtain ⟨q, hq, rfl, hown, hb, hk⟩ := hrel
          have hszi := hb.size
          by_cases hq8 : q < 8
          · have f4 : wr.cell? ⟨wo.heap.size, 4, none⟩ = some (.int .u64 i.imm) := hk.cell 4
            have HOi := Lib.hid hown
            have HBi := Lib.hid hb
            have HKi := Lib.hid hk
            clear hown hb hk
            have hzi : w.heap.size ≤ (wr.alloc (.cells #[.int .u8 (i.imm / 2 ^ (8 * q) % 256)] 5)).heap.size := by simp; omega
            have Ri := Lib.hid (Rd.new wr #[.int .u8 (i.imm / 2 ^ (8 * q) % 256)] 5 (size := 1) (m := 1) rfl (by simp [maxLen]))
            have HOi' := Lib.hid (HOi.out.alloc (.cells #[.int .u8 (i.imm / 2 ^ (8 * q) % 256)] 5))
            have HBi' := Lib.hid (HBi.out.alloc hszi (.cells #[.int .u8 (i.imm / 2 ^ (8 * q) % 256)] 5))
            have HKi' := Lib.hid (HKi.out.alloc (.cells #[.int .u8 (i.imm / 2 ^ (8 * q) % 256)] 5))
            have tok2 : True := trivial
            go_wp2_with (
              at_builtin
              have _t := tok2
              go_must (
                refine wpList_app _ rfl (.tmp 46) (.tmp 53) 23 rfl w.heap.size 5 i0 _ 1 1 Try.underlying23 hi0 hz0 hz1 hz2 rfl (by omega) _ (4 + 12 * j + 4 + q) _ rfl HOi'.out _ _ 1 _ (byt [i.imm / 2 ^ (8 * q) % 256]) rfl Ri.out (byt_one _) ?_ ?_ ?_ ?_
                · simp only [maxLen]; omega
                · omega
                · exact hzi
                intro v5 w5 hown5 hg5 _
                have HO5 := Lib.hid hown5
                have HB5 := Lib.hid (below_own HBi'.out HOi'.out hg5 (Nat.le_refl _) hzi)
                have HK5 := Lib.hid (HKi'.out.grown hg5 (Bk.ne_own HKi'.out HOi'.out hne))
                clear hown5 hg5 _t tok2))
            go_roundw
            case rel =>
              refine ⟨q + 1, by omega, by go_num, ?_, HB5.out, HK5.out⟩
              have h := HO5.out
              rw [numL_snoc i.imm q, byt_append (numL i.imm q), ← List.append_assoc]
              rw [pow_8q] at h
              exact h
            case measure => simp [intOf]; omega
          · obtain rfl : q = 8 := by omega
            have HOi := Lib.hid hown
            have HBi := Lib.hid hb
            clear hown hb hk
            have hn2 : Hid (∀ q i, q < j + 1 → l[q]? = some i → i.plain = true) := fun q i' hq' hi => by
              rcases Nat.lt_or_ge q j with h | h
              · exact hall.out q i' h hi
              · obtain rfl : q = j := by omega
                have e := HA.out
                rw [hi] at e
                obtain rfl : i' = i := by simpa using e
                exact hp
            go_wp2
            go_roundw
            case rel =>
              refine ⟨j + 1, by omega, by go_num, ?_, HBi.out, hn2⟩
              rw [HI.out, bodyB_snoc, insB]
              have h := HOi.out
              simp only [byt_append, List.append_assoc] at h ⊢
              have e : 4 + 12 * j + 4 + 8 = 4 + 12 * (j + 1) := by omega
              rw [e] at h
              exact h
            case measure => simp [intOf]; omega
    · obtain rfl : j = n := by omega
      have E : Hid (encCode l = 0) := by
        show _ = _
        rw [encCode_plain (by rw [HL.out]; exact hn), List.all_eq_true.2 fun i hi => by
          obtain ⟨q, hq, e⟩ := List.getElem_of_mem hi
          exact hall.out q i (by rw [← HL.out]; exact hq) (by rw [List.getElem?_eq_getElem hq, e])]
        rfl
      have F : Hid (bodyB (l.take j) = bodyB l) := by
        show _ = _
        rw [List.take_of_length_le (by rw [HL.out]; omega)]
      go_wp2
      go_ret2
      have h := HO.out
      rw [F.out] at h
      have : EncPost l w (.returned (.tuple #[u4, .int .i64 (encCode l)])) wo := ⟨u4, _, rfl, by rw [encBytes, if_pos E.out, progB, HL.out]; exact h, HB.out⟩
      rw [E.out] at this
      exact this

theorem encode_any (l : List Ins) (A : Option Addr) (n c : Nat) (w : World) (hr : RdI w w.heap.size A n l) (hok : ∀ i ∈ l, i.Ok) :
    Calls Try.prog 14 #[.slice A n c] w (EncPost l w) := by
  by_cases hn : n ≤ 256
  · exact encode_go l A n c w hr hok hn
  · have h63 := hr.le
    unfold maxLen at h63
    have E : Hid (encCode l = 3) := by
      show _ = _
      rw [encCode, if_pos (by rw [hr.insLen]; omega)]
    clear hr hok
    go_enter Try.func14, Try.ntmps14
    go_wp2
    go_ret2
    have := EncPost.bad (l := l) (w := w) (w' := w) (by rw [E.out]; decide) (Below.refl _ _)
    rw [E.out] at this
    exact this
end Go.Proofs.Ytkkbgpfimapnoaa
