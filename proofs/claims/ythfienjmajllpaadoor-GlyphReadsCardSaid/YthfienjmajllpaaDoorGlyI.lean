/-
  Chapter 2: tokens as text; contract of glyph.Print.
-/
import Derived.Test.YthfienjmajllpaaDoorGlyG
import Derived.Test.YthfienjmajllpaaDoorGlyH
namespace Go.Proofs.YthfienjmajllpaaDoor
open Go.RowKit
set_option linter.unusedVariables false

/-- A token's numbers are of their kinds. -/
structure Tok.Ok (t : Tok) : Prop where
  kind : -9223372036854775808 ≤ t.kind ∧ t.kind ≤ 9223372036854775807
  text : t.text.size ≤ maxLen
  num : 0 ≤ t.num ∧ t.num ≤ 18446744073709551615
  at_ : -9223372036854775808 ≤ t.at_ ∧ t.at_ ≤ 9223372036854775807
  line : -9223372036854775808 ≤ t.line ∧ t.line ≤ 9223372036854775807
/-- What is printed of a word, a number, a sign. -/
def tokText (t : Tok) : List UInt8 := if t.kind = 1 then Lib.decDigits t.num.toNat else t.text.data.toList
def printGo : List Tok → Bool → List UInt8
  | [], _ => []
  | t :: r, fresh => if t.kind = 3 then 10 :: printGo r true
    else if t.kind < 0 ∨ 3 < t.kind then printGo r fresh
    else (if fresh then [] else [32]) ++ tokText t ++ printGo r false
/-- Tokens as text. -/
def printP (l : List Tok) : List UInt8 := printGo l true
theorem drop_at {l : List Tok} {k : Nat} {t : Tok} (h : l[k]? = some t) : l.drop k = t :: l.drop (k + 1) := by
  obtain ⟨hk, rfl⟩ := List.getElem?_eq_some_iff.1 h
  exact List.drop_eq_getElem_cons hk
theorem Bk.keptB {w w' : World} {g B b : Nat} {t : TypeId} {cs : Array Value} (h : Bk w g t cs) (hf : FrmB B b w w') (hg : g ≠ b) (ht : t ≠ 5) : Bk w' g t cs :=
  hf.kept g _ h (by simpa using hg) (fun c fz e => by injection e with _ e; exact ht e)
theorem FrmB.of_below {B b : Nat} {w w' : World} (hB : B ≤ w.heap.size) (hb : Below w.heap.size w w') : FrmB B b w w' :=
  ⟨hb.mono hB, fun k o hk _ _ => (hb.block k (Array.getElem?_eq_some_iff.1 hk).1).trans hk⟩
theorem Bld.below {B b : Nat} {bs : List Value} {w w' : World} (h : Bld B b bs w) (hb : Below w.heap.size w w') : Bld B b bs w' := by
  have hk : ∀ (k : Nat) (o : Obj), w.heap[k]? = some o → w'.heap[k]? = some o := fun k o hk => (hb.block k (Array.getElem?_eq_some_iff.1 hk).1).trans hk
  have hA : ∀ p, Lib.BuilderAtF 50 5 B b p bs w → Lib.BuilderAtF 50 5 B b p bs w' := by
    rintro p ⟨h1, v, h2, h3, h4⟩
    refine ⟨h1, v, hk _ _ h2, ⟨h3.1, ?_⟩, h4⟩
    rcases h3.2 with h0 | ⟨g, cap, cur, fz, hv, hbb, hg, rest⟩
    · exact .inl h0
    · exact .inr ⟨g, cap, cur, fz, hv, hbb, hk _ _ hg, rest⟩
  rcases h with h | h
  · exact .inl (hA _ h)
  · exact .inr (hA _ h)

def PrintPost (l : List Tok) (w : World) (e : Ending) (w' : World) : Prop := e = .returned (.string ⟨(printP l).toArray⟩) ∧ Below w.heap.size w w'

set_option maxRecDepth 100000 in
set_option maxHeartbeats 8000000 in
theorem print_any (l : List Tok) (A : Option Addr) (n c : Nat) (w : World) (hr : RdT w w.heap.size A n l) (hok : ∀ t ∈ l, 0 ≤ t.num ∧ t.num ≤ 18446744073709551615) (hlen : (printP l).length ≤ 140737488355328) (htab : PowTab w) :
    Calls Tryd.prog 10 #[.slice A n c] w (PrintPost l w) := by
  have h63 := hr.le
  unfold maxLen at h63
  have HL := Lib.hid hr.tokLen
  have HR := Lib.hid hr
  have HK := Lib.hid hok
  have HT := Lib.hid htab
  have HLn := Lib.hid hlen
  clear hr hok htab hlen
  go_enter Tryd.func10, Tryd.ntmps10
  go_wp2
  go_loopw [9, 4, 6] (fun t fr _u wr => ∃ (k : Nat) (fresh : Bool) (acc : List UInt8), (k ≤ n ∧ t = .int .i64 k ∧ fr = .bool fresh) ∧ Hid (acc ++ printGo (l.drop k) fresh = printP l) ∧ Bld w.heap.size w.heap.size (Lib.byteCells acc) wr ∧ Below w.heap.size w wr) (fun t _ _ _ => n - (intOf t).toNat)
  case atStart => exact ⟨0, true, [], ⟨by omega, rfl, rfl⟩, rfl, Lib.IsBuilderF.of (Lib.fresh_isBuilder _ _ w), (Below.refl _ _).alloc (Nat.le_refl _) _⟩
  case round =>
    obtain ⟨k, fresh, acc, ⟨hk, rfl, rfl⟩, HA, hbl, hb⟩ := hrel
    obtain ⟨wo, rfl⟩ : ∃ wo : World, wo = wr := ⟨_, rfl⟩
    have HB := Lib.hid hb
    have HBl := Lib.hid hbl
    have hsz := hb.size
    have hbw : w.heap.size < wo.heap.size := by
      rcases hbl with ⟨_, v, h, _⟩ | ⟨_, v, h, _⟩ <;> exact (Array.getElem?_eq_some_iff.1 h).1
    have hal : acc.length ≤ (printP l).length := by rw [← HA.out, List.length_append]; omega
    clear hb hbl
    by_cases hlt : k < n
    · obtain ⟨b0, o0, t, hAd, hbB, ht, c0, c1, c2, c3, c4⟩ := (HR.out.below HB.out).tokAt hlt
      subst hAd
      have HD := Lib.hid (drop_at ht)
      have HOk := Lib.hid (HK.out t (List.mem_of_getElem? ht))
      rw [HD.out, printGo] at HA
      have hnum := HOk.out
      clear ht
      obtain ⟨kind, text, num, at_, line⟩ := t
      simp only at c0 c1 c2 c3 c4 hnum
      have hloc : ∀ o : Obj, Bld w.heap.size w.heap.size (Lib.byteCells acc) (wo.alloc o) := fun o => HBl.out.alloc o
      have HLo := Lib.hid hloc
      have HBa : Hid (∀ o : Obj, Below w.heap.size w (wo.alloc o)) := fun o => HB.out.alloc hsz o
      obtain ⟨wb, hwb⟩ : ∃ wb, wo.alloc (.cells #[.int .i64 kind, .string text, .int .u64 num, .int .i64 at_, .int .i64 line] 26) = wb := ⟨_, rfl⟩
      have BX : Hid (Bk wb wo.heap.size 26 #[.int .i64 kind, .string text, .int .u64 num, .int .i64 at_, .int .i64 line]) := by rw [← hwb]; exact Bk.new wo _ _
      have LX : Hid (Bld w.heap.size w.heap.size (Lib.byteCells acc) wb) := by rw [← hwb]; exact hloc _
      have WX : Hid (Below w.heap.size w wb) := by rw [← hwb]; exact HBa.out _
      have HWB := Lib.hid hwb
      have zX := BX.out.lt
      clear hloc hwb
      have HL0 := HLn.out
      by_cases h3 : kind = 3
      · subst h3
        rw [if_pos rfl] at HA
        go_wp2_with fail
        rw [HWB.out]
        refine (wbyte_any _ _ _ 10 _ LX.out (by rw [Lib.byteCells_length]; have e := congrArg List.length HA.out; simp at e; omega) WX.out.size).mono ?_
        rintro e w1 ⟨rfl, hb1, hf1⟩
        have HA1 : Hid (acc ++ [10] ++ printGo (l.drop (k + 1)) true = printP l) := by
          show _ = _
          rw [← HA.out]; simp
        have HL1 : Hid (Bld w.heap.size w.heap.size (Lib.byteCells (acc ++ [10])) w1) := by rw [Lib.byteCells_append]; exact hb1
        have HB1 := Lib.hid (WX.out.trans hf1.below)
        clear hb1 hf1
        go_wp2
        go_roundw
        case rel => exact ⟨k + 1, true, acc ++ [10], ⟨by omega, by go_num, rfl⟩, HA1, HL1.out, HB1.out⟩
        case measure => simp [intOf]; omega
      · rw [if_neg h3] at HA
        have hb3 : (kind == 3) = false := by simpa using h3
        by_cases hout : kind < 0 ∨ 3 < kind
        · rw [if_pos hout] at HA
          rcases hout with h | h
          · go_wp2
            rw [HWB.out]
            go_roundw
            case rel => exact ⟨k + 1, fresh, acc, ⟨by omega, by go_num, rfl⟩, HA, LX.out, WX.out⟩
            case measure => simp [intOf]; omega
          · have h' : ¬ kind < 0 := by omega
            go_wp2
            rw [HWB.out]
            go_roundw
            case rel => exact ⟨k + 1, fresh, acc, ⟨by omega, by go_num, rfl⟩, HA, LX.out, WX.out⟩
            case measure => simp [intOf]; omega
        · rw [if_neg hout] at HA
          have h0 : ¬ kind < 0 := by omega
          have h4 : ¬ 3 < kind := by omega
          obtain ⟨u, hu⟩ : ∃ u : Nat, num = (u : Int) := ⟨num.toNat, by omega⟩
          subst hu
          have hu64 : u < 18446744073709551616 := by omega
          have HTx : Hid (tokText ⟨kind, text, (u : Int), at_, line⟩ = if kind = 1 then Lib.decDigits u else text.data.toList) := by
            show _ = _
            rw [tokText]; simp only [Int.toNat_natCast]
          rw [HTx.out] at HA
          cases fresh
          · simp only [Bool.false_eq_true, if_false] at HA
            go_wp2_with fail
            rw [HWB.out]
            refine (wbyte_any _ _ _ 32 _ LX.out (by rw [Lib.byteCells_length]; have e := congrArg List.length HA.out; simp at e; omega) WX.out.size).mono ?_
            rintro e w1 ⟨rfl, hb1, hf1⟩
            have LY : Hid (Bld w.heap.size w.heap.size (Lib.byteCells (acc ++ [32])) w1) := by rw [Lib.byteCells_append]; exact hb1
            have BY := Lib.hid (BX.out.keptB hf1 (by omega) (by decide))
            have WY := Lib.hid (WX.out.trans hf1.below)
            obtain ⟨acc', hacc⟩ : ∃ acc', acc ++ [32] = acc' := ⟨_, rfl⟩
            rw [hacc] at LY
            have HA' : Hid (acc' ++ ((if kind = 1 then Lib.decDigits u else text.data.toList) ++ printGo (l.drop (k + 1)) false) = printP l) := by
              show _ = _
              rw [← hacc, ← HA.out]; simp
            clear hb1 hf1 hacc
            have y0 := BY.out.cell 0
            have y1 := BY.out.cell 1
            have y2 := BY.out.cell 2
            simp at y0 y1 y2
            have z1 := BY.out.lt
            by_cases h1 : kind = 1
            · subst h1
              rw [if_pos rfl] at HA'
              go_wp2_with fail
              refine (fuint_any u hu64 _ (HT.out.below WY.out)).mono ?_
              rintro e w2 ⟨rfl, hb2⟩
              have LZ := Lib.hid (LY.out.below hb2)
              have WZ := Lib.hid (WY.out.trans (hb2.mono WY.out.size))
              clear hb2
              go_wp2_with fail
              refine (wstring_any _ _ _ _ _ LZ.out (by rw [Lib.byteCells_length]; have e := congrArg List.length HA'.out; simp at e; show _ + (Lib.decDigits u).toArray.size ≤ _; simp; omega) WZ.out.size).mono ?_
              rintro e w3 ⟨rfl, hb3, hf3⟩
              have HA1 : Hid (acc' ++ Lib.decDigits u ++ printGo (l.drop (k + 1)) false = printP l) := by
                show _ = _
                rw [← HA'.out]; simp
              have HL1 : Hid (Bld w.heap.size w.heap.size (Lib.byteCells (acc' ++ Lib.decDigits u)) w3) := by rw [Lib.byteCells_append]; exact hb3
              have HB1 := Lib.hid (WZ.out.trans hf3.below)
              clear hb3 hf3
              go_wp2
              go_roundw
              case rel => exact ⟨k + 1, false, acc' ++ Lib.decDigits u, ⟨by omega, by go_num, rfl⟩, HA1, HL1.out, HB1.out⟩
              case measure => simp [intOf]; omega
            · rw [if_neg h1] at HA'
              have hb1 : (kind == 1) = false := by simpa using h1
              go_wp2_with fail
              refine (wstring_any _ _ _ text _ LY.out (by rw [Lib.byteCells_length]; have e := congrArg List.length HA'.out; simp at e; have : text.data.size = text.size := rfl; omega) WY.out.size).mono ?_
              rintro e w3 ⟨rfl, hb3, hf3⟩
              have HA1 : Hid (acc' ++ text.data.toList ++ printGo (l.drop (k + 1)) false = printP l) := by
                show _ = _
                rw [← HA'.out]; simp
              have HL1 : Hid (Bld w.heap.size w.heap.size (Lib.byteCells (acc' ++ text.data.toList)) w3) := by rw [Lib.byteCells_append]; exact hb3
              have HB1 := Lib.hid (WY.out.trans hf3.below)
              clear hb3 hf3
              go_wp2
              go_roundw
              case rel => exact ⟨k + 1, false, acc' ++ text.data.toList, ⟨by omega, by go_num, rfl⟩, HA1, HL1.out, HB1.out⟩
              case measure => simp [intOf]; omega
          · simp only [if_true] at HA
            have LY := Lib.hid LX.out
            have BY := Lib.hid BX.out
            have WY := Lib.hid WX.out
            obtain ⟨acc', hacc⟩ : ∃ acc', acc = acc' := ⟨_, rfl⟩
            rw [hacc] at LY
            have HA' : Hid (acc' ++ ((if kind = 1 then Lib.decDigits u else text.data.toList) ++ printGo (l.drop (k + 1)) false) = printP l) := by
              show _ = _
              rw [← hacc, ← HA.out]; simp
            clear hacc
            obtain ⟨w1, hw1⟩ : ∃ w1, wb = w1 := ⟨_, rfl⟩
            have HW1 := Lib.hid hw1
            rw [hw1] at LY BY WY
            clear hw1
            by_cases h1 : kind = 1
            · subst h1
              rw [if_pos rfl] at HA'
              go_wp2_with fail
              rw [HWB.out, HW1.out]
              refine (fuint_any u hu64 _ (HT.out.below WY.out)).mono ?_
              rintro e w2 ⟨rfl, hb2⟩
              have LZ := Lib.hid (LY.out.below hb2)
              have WZ := Lib.hid (WY.out.trans (hb2.mono WY.out.size))
              clear hb2
              go_wp2_with fail
              refine (wstring_any _ _ _ _ _ LZ.out (by rw [Lib.byteCells_length]; have e := congrArg List.length HA'.out; simp at e; show _ + (Lib.decDigits u).toArray.size ≤ _; simp; omega) WZ.out.size).mono ?_
              rintro e w3 ⟨rfl, hb3, hf3⟩
              have HA1 : Hid (acc' ++ Lib.decDigits u ++ printGo (l.drop (k + 1)) false = printP l) := by
                show _ = _
                rw [← HA'.out]; simp
              have HL1 : Hid (Bld w.heap.size w.heap.size (Lib.byteCells (acc' ++ Lib.decDigits u)) w3) := by rw [Lib.byteCells_append]; exact hb3
              have HB1 := Lib.hid (WZ.out.trans hf3.below)
              clear hb3 hf3
              go_wp2
              go_roundw
              case rel => exact ⟨k + 1, false, acc' ++ Lib.decDigits u, ⟨by omega, by go_num, rfl⟩, HA1, HL1.out, HB1.out⟩
              case measure => simp [intOf]; omega
            · rw [if_neg h1] at HA'
              have hb1 : (kind == 1) = false := by simpa using h1
              go_wp2_with fail
              rw [HWB.out, HW1.out]
              refine (wstring_any _ _ _ text _ LY.out (by rw [Lib.byteCells_length]; have e := congrArg List.length HA'.out; simp at e; have : text.data.size = text.size := rfl; omega) WY.out.size).mono ?_
              rintro e w3 ⟨rfl, hb3, hf3⟩
              have HA1 : Hid (acc' ++ text.data.toList ++ printGo (l.drop (k + 1)) false = printP l) := by
                show _ = _
                rw [← HA'.out]; simp
              have HL1 : Hid (Bld w.heap.size w.heap.size (Lib.byteCells (acc' ++ text.data.toList)) w3) := by rw [Lib.byteCells_append]; exact hb3
              have HB1 := Lib.hid (WY.out.trans hf3.below)
              clear hb3 hf3
              go_wp2
              go_roundw
              case rel => exact ⟨k + 1, false, acc' ++ text.data.toList, ⟨by omega, by go_num, rfl⟩, HA1, HL1.out, HB1.out⟩
              case measure => simp [intOf]; omega
    · obtain rfl : n = k := by omega
      have HA1 : Hid (acc = printP l) := by
        show _ = _
        rw [← HA.out, List.drop_of_length_le (by rw [HL.out]; exact Nat.le_refl _), printGo]; simp
      go_wp2_with fail
      refine (Tryd.Builder_String_any_k _ _ acc _ HBl.out hsz).mono ?_
      rintro e w1 ⟨rfl, _, hb1, _⟩
      have HB1 := Lib.hid (HB.out.trans hb1)
      clear hb1
      go_wp2
      go_ret
      exact ⟨by rw [← HA1.out]; rfl, HB1.out⟩
end Go.Proofs.YthfienjmajllpaaDoor
