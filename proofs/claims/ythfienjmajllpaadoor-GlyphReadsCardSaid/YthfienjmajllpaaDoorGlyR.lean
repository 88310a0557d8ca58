/-
  Chapter 2: contract of tumblerlaw02.alive: the walk.
-/
import Derived.Test.YthfienjmajllpaaDoorGlyQ
namespace Go.Proofs.YthfienjmajllpaaDoor
open Go.RowKit
set_option linter.unusedVariables false

set_option maxRecDepth 100000 in
set_option maxHeartbeats 8000000 in
theorem alive_any (w : World) (htab : PowTab w) : Calls Tryd.prog 9 #[] w fun e w' => e = .returned (.bool true) ∧ Below w.heap.size w w' := by
  have HT := Lib.hid htab
  clear htab
  go_enter Tryd.func9, Tryd.ntmps9
  go_wp2_with fail
  refine (lex_to aLex _ (by decide)).mono ?_
  rintro e w1 ⟨A, c, rfl, _, hr1, hb1⟩
  rw [show aToks.length = 6 from rfl] at hr1 ⊢
  obtain ⟨b, o, rfl, hbB⟩ := hr1.addr (by omega)
  have HR1 := Lib.hid hr1
  have HB1 := Lib.hid hb1
  clear hr1 hb1
  go_wp2_with fail
  refine (lex_to aLex2 _ (by decide)).mono ?_
  rintro e w2 ⟨A2, c2, rfl, _, _, hb2⟩
  have HB2 := Lib.hid (HB1.out.trans (hb2.mono HB1.out.size))
  have HR2 := Lib.hid ((HR1.out.below hb2).more hb2.size)
  obtain ⟨_, t1, _, _, _⟩ := HR2.out.tokIs (k := 1) (t := ⟨2, ⟨#[226, 134, 144]⟩, 0, 3, 0⟩) rfl b o rfl
  obtain ⟨k1, _, _, _, _⟩ := HR2.out.tokIs (k := 1) (t := ⟨2, ⟨#[226, 134, 144]⟩, 0, 3, 0⟩) rfl b o rfl
  obtain ⟨_, _, _, a2, _⟩ := HR2.out.tokIs (k := 2) (t := ⟨0, ⟨#[114, 50]⟩, 0, 7, 0⟩) rfl b o rfl
  obtain ⟨_, _, n4, _, _⟩ := HR2.out.tokIs (k := 4) (t := ⟨1, ⟨#[]⟩, 10, 12, 0⟩) rfl b o rfl
  obtain ⟨k5, _, _, _, _⟩ := HR2.out.tokIs (k := 5) (t := ⟨3, ⟨#[]⟩, 0, 20, 0⟩) rfl b o rfl
  simp at t1 k1 a2 n4 k5
  have hz := HB2.out.size
  clear hb2
  go_wp2_with fail
  refine (print_any aToks _ 6 c _ HR2.out (fun t ht => (aOk t ht).num) (by rw [aPrint]; decide) (HT.out.below HB2.out)).mono ?_
  rintro e w3 ⟨rfl, hb3⟩
  rw [show (⟨(printP aToks).toArray⟩ : ByteArray) = ⟨#[114, 49, 32, 226, 134, 144, 32, 114, 50, 32, 43, 32, 49, 48, 10]⟩ by rw [aPrint]]
  have HB3 := Lib.hid (HB2.out.trans (hb3.mono hz))
  have HR3 := Lib.hid ((HR2.out.below hb3).more hb3.size)
  have hz3 := HB3.out.size
  clear hb3
  go_wp2_with fail
  refine (lines_any aToks _ 6 c 9 _ HR3.out (by omega) (by rw [aLines]; omega) (by omega)).mono ?_
  rintro e w4 ⟨A', m, c', rfl, hm, hb4⟩
  obtain rfl : m = 1 := by rw [keptLines, aLines] at hm; simp at hm; omega
  have HB4 := Lib.hid (HB3.out.trans (hb4.mono hz3))
  clear hb4 hm
  go_wp2
  go_ret
  exact ⟨rfl, HB4.out⟩
end Go.Proofs.YthfienjmajllpaaDoor
