import Derived.Test.YtiiaingepbkikaaGreatDoorWoAA
import Derived.Lib.ItoaLen
import Derived.Lib.Join
import Derived.Test.YtiiaingepbkikaaGreatDoorChecked
import Derived.Lib.OthersKept
import Derived.Test.YtiiaingepbkikaaGreatDoorShelf
import Derived.Lib.ItoaMem
import Derived.Lib.AppendIntMem
import Derived.Lib.OwnBridge
import Derived.Lib.Walk
import Derived.BigCall
import Derived.BigGuard
import Derived.Deep.AppendLies
import Derived.RegionTactic
namespace Go.Proofs.YtiiaingepbkikaaGreatDoor
open Go.RowKit
set_option linter.unusedVariables false
abbrev Bys : Type := List UInt8
def dec (u : Int) : Bys := Lib.decDigits u.toNat
def wordP (e : Int) : Bys :=
 if e = 30 then [99, 111, 100, 101] else if e = 40 then [97, 98, 111, 114, 116] else if e = 41 then [102, 117, 101, 108] else if e = 42 then [119, 114, 105, 116, 101, 115]
 else if e = 43 then [109, 101, 109] else if e = 44 then [104, 97, 110, 100, 108, 101] else if e = 45 then [108, 97, 115, 116] else [101, 114, 114, 111, 114, 32] ++ Lib.itoa e
def resultP (code val : Int) : Bys := if code = 0 then dec val else if code = 40 then [97, 98, 111, 114, 116, 32] ++ dec val else wordP code
def lineP (parts : List Bys) : Bys := Lib.join parts [32] ++ [10]
structure Rec where
 who : Int
 tag : Int
 prog : Int
 a0 : Int
 a1 : Int
 a2 : Int
 a3 : Int
 from_ : Int
 till : Int
 steps : Int
 done : Bool
 code : Int
 val : Int
def Rec.cells (r : Rec) : List Value := [.int .i64 r.who, .int .i64 r.tag, .int .i64 r.prog, .int .u64 r.a0, .int .u64 r.a1, .int .u64 r.a2, .int .u64 r.a3, .int .i64 r.from_, .int .i64 r.till, .int .i64 r.steps, .bool r.done, .int .i64 r.code, .int .u64 r.val]
def Rec.v (r : Rec) : Value := .agg #[.int .i64 r.who, .int .i64 r.tag, .int .i64 r.prog, .int .u64 r.a0, .int .u64 r.a1, .int .u64 r.a2, .int .u64 r.a3, .int .i64 r.from_, .int .i64 r.till, .int .i64 r.steps, .bool r.done, .int .i64 r.code, .int .u64 r.val]
structure Rec.Ok (r : Rec) : Prop where
 who : -9223372036854775808 ≤ r.who ∧ r.who ≤ 9223372036854775807
 tag : -9223372036854775808 ≤ r.tag ∧ r.tag ≤ 9223372036854775807
 prog : -9223372036854775808 ≤ r.prog ∧ r.prog ≤ 9223372036854775807
 a0 : 0 ≤ r.a0 ∧ r.a0 ≤ 18446744073709551615
 a1 : 0 ≤ r.a1 ∧ r.a1 ≤ 18446744073709551615
 a2 : 0 ≤ r.a2 ∧ r.a2 ≤ 18446744073709551615
 a3 : 0 ≤ r.a3 ∧ r.a3 ≤ 18446744073709551615
 from_ : -9223372036854775808 ≤ r.from_ ∧ r.from_ ≤ 9223372036854775807
 till : -9223372036854775808 ≤ r.till ∧ r.till ≤ 9223372036854775807
 steps : -9223372036854775808 ≤ r.steps ∧ r.steps ≤ 9223372036854775807
 code : -9223372036854775808 ≤ r.code ∧ r.code ≤ 9223372036854775807
 val : 0 ≤ r.val ∧ r.val ≤ 18446744073709551615
def whoP (who : Int) : Bys := if 0 ≤ who ∧ who < 8 then [UInt8.ofNat (97 + who.toNat)] else [45]
def progP (names : List ByteArray) (p : Int) : Bys := if 0 ≤ p ∧ p < names.length then (names.getD p.toNat ⟨#[]⟩).data.toList else [45]
def partsP (names : List ByteArray) (r : Rec) : List Bys :=
 [whoP r.who, Lib.itoa r.tag, progP names r.prog, dec r.a0, dec r.a1, dec r.a2, dec r.a3, [58], Lib.itoa r.from_, Lib.itoa r.till, Lib.itoa r.steps, [61], if r.done then resultP r.code r.val else [45]]
def recordP (names : List ByteArray) (r : Rec) : Bys := lineP (partsP names r)
def thingP (root : Int) (word : Bys) (cap : Int) (mem : List Bys) : Bys := lineP (Lib.itoa root :: word :: dec cap :: [58] :: mem)
end Go.Proofs.YtiiaingepbkikaaGreatDoor
namespace Go.Proofs.YtiiaingepbkikaaGreatDoor
open Go.RowKit
set_option linter.unusedVariables false
def signText : ByteArray := ⟨#[226, 134, 144, 43, 45, 195, 151, 37, 61, 60, 91, 93, 58, 36, 44]⟩
def signAt (k : Nat) : Nat := [0, 3, 4, 5, 7, 8, 9, 10, 11, 12, 13, 14, 15].getD k 0
end Go.Proofs.YtiiaingepbkikaaGreatDoor
namespace Go.Proofs.YtiiaingepbkikaaGreatDoor
open Go.RowKit Go.Sort Go.Lib Go.Shelf
set_option linter.unusedVariables false
abbrev PowTab (w : World) : Prop := Lib.TabIs Tryz.prog w "internal/strconv.uint64pow10" .u64 Lib.pow10Tab
theorem PowTab.below {w w' : World} (h : PowTab w) (hb : Below w.heap.size w w') : PowTab w' := Lib.tabBelow_of_tabIs h w' hb
theorem holds_zero0 (w : World) (T : TypeId) (nd : Nat) (hs : nd ≤ 24) : Holds (fun (b : UInt8) => Value.int .u8 (b.toNat : Int)) (w.alloc (.cells zeros24 T)) w.heap.size 0 (Array.replicate nd (0 : UInt8)) := fun j hj => by
 have hj' : j < nd := by simpa using hj
 refine ⟨?_, World.frozen?_alloc_new _ _ _ _⟩
 rw [World.cell?_alloc_new, zeros24_at _ (by omega), getElem!_pos _ j hj]
 simp
set_option maxHeartbeats 6400000 in
set_option maxRecDepth 100000 in
theorem ifuint_any (u : Nat) (hu64 : u < 18446744073709551616) (w : World) (htab : PowTab w) :
 Calls Tryz.prog 75 #[.int .u64 u, .int .i64 10] w fun e w' => e = .returned (.string ⟨(Lib.decDigits u).toArray⟩) ∧ Below w.heap.size w w' := by
 by_cases hi : u < 100
 ·go_enter Tryz.func75, Tryz.ntmps75
  go_wp2_with (go_at_call 91; refine (Tryz.internal_strconv_small u hi _).mono ?_; rintro e w' ⟨rfl, rfl⟩)
  go_ret
  exact ⟨rfl, Below.refl _ _⟩
 ·have hu1 : 1 ≤ u := by omega
  have hnd20 : Lib.nDigits u ≤ 20 := by have := Lib.numDigits_eq u hu1 hu64; split at this <;> omega
  have hb3 : Lib.nDigits u ≤ 24 := by omega
  have hal : Tryz.prog.arrayLen 158 = 24 := by kernel_rfl
  have hH0 := holds_zero0 w 158 (Lib.nDigits u) (by omega)
  have hfmt := Tryz.internal_strconv_formatBase10 w.heap.size 0 24 u (Array.replicate (Lib.nDigits u) 0) (w.alloc (.cells Lib.zeros24 158)) hH0 (by rw [Array.size_replicate]; exact Lib.lt_pow_nDigits u) hu64 (by rw [Array.size_replicate]; omega)
  rw [Array.size_replicate] at hfmt
  have HH0 := Lib.hid hH0
  have hsl1 : ∀ W, (Instr.sliceAt 158 (.pointer (some ⟨w.heap.size, 0, none⟩)) none (some (.int .i64 (Lib.nDigits u : Int))) none).run Tryz.prog W = .ok (.slice (some ⟨w.heap.size, 0, none⟩) (Lib.nDigits u) 24) W := fun W => by
   rw [run_sliceAt_array_h W 158 ⟨w.heap.size, 0, none⟩ (by kernel_rfl) .i64 (Lib.nDigits u : Int) (by omega) (by rw [hal]; omega)]
   go_simp
  clear hH0 hal
  go_enter Tryz.func75, Tryz.ntmps75
  go_wp2_with (first
   | (go_at_call 92; refine (Tryz.internal_strconv_numDigits u hu1 hu64 _ (Lib.tabIs_alloc htab _)).mono ?_; rintro e w' ⟨rfl, rfl⟩))
  go_at_call 93
  refine hfmt.mono ?_
  rintro e w' ⟨rfl, k, v', dk, rfl, hF⟩
  have hcv : (convert 95 9 (.slice (some ⟨w.heap.size, 0, none⟩) (Lib.nDigits u) 24)).run Tryz.prog ((putRow (fun (b : UInt8) => Value.int .u8 (b.toNat : Int)) (w.alloc (.cells Lib.zeros24 158)) w.heap.size 0 dk).drewN k) = .ok (.string ⟨(Lib.decDigits u).toArray⟩) ((putRow (fun (b : UInt8) => Value.int .u8 (b.toNat : Int)) (w.alloc (.cells Lib.zeros24 158)) w.heap.size 0 dk).drewN k) := by
   have h := run_convert_bytes_back (P := Tryz.prog) ((putRow (fun (b : UInt8) => Value.int .u8 (b.toNat : Int)) (w.alloc (.cells Lib.zeros24 158)) w.heap.size 0 dk).drewN k) 95 9 5 ⟨w.heap.size, 0, none⟩ 24 (Lib.decDigits u) Tryz.underlying95 Tryz.underlying5 Tryz.underlying9 (fun j hj => by
    rw [Lib.row_is_numeral hF j hj, Lib.add_plain, World.cell?_drewN]
    exact cell?_putRow (fun (b : UInt8) => Value.int .u8 (b.toNat : Int)) _ w.heap.size 0 _ dk HH0.out (by rw [hF.size, Array.size_replicate]) j (by rw [hF.size]; rw [Lib.decDigits_length] at hj; exact hj))
   rw [Lib.decDigits_length] at h
   exact h
  have HB : Hid (Below w.heap.size w ((putRow (fun (b : UInt8) => Value.int .u8 (b.toNat : Int)) (w.alloc (.cells Lib.zeros24 158)) w.heap.size 0 dk).drewN k)) :=
   below_drewN (Lib.below_putRow (q := 0) ((Below.refl _ w).alloc (Nat.le_refl _) _) (Nat.le_refl _)) k
  go_wp2
  go_ret
  exact ⟨rfl, HB.out⟩
set_option maxRecDepth 100000 in
theorem fuint_any (u : Nat) (hu64 : u < 18446744073709551616) (w : World) (htab : PowTab w) :
 Calls Tryz.prog 62 #[.int .u64 u, .int .i64 10] w fun e w' => e = .returned (.string ⟨(Lib.decDigits u).toArray⟩) ∧ Below w.heap.size w w' := by
 go_enter Tryz.func62, Tryz.ntmps62
 go_wp2_with (go_at_call 75; refine (ifuint_any u hu64 _ htab).mono ?_; rintro e w' ⟨rfl, hb⟩)
 go_ret
 exact ⟨rfl, hb⟩
end Go.Proofs.YtiiaingepbkikaaGreatDoor
namespace Go.Proofs.YtiiaingepbkikaaGreatDoor
open Go.RowKit
set_option linter.unusedVariables false
def str (l : Bys) : ByteArray := ⟨l.toArray⟩
theorem str_list (l : Bys) : (str l).data.toList = l := by simp [str]
theorem str_size (l : Bys) : (str l).size = l.length := by show l.toArray.size = _; simp
theorem str_app (a b : Bys) : str a ++ str b = str (a ++ b) := ByteArray.ext (by rw [ByteArray.data_append]; simp [str])
theorem str_of (s : ByteArray) : str s.data.toList = s := by cases s; simp [str]
theorem dec_len (u : Int) (h : u ≤ 18446744073709551615) : (dec u).length ≤ 20 := by rw [dec, Lib.decDigits_length]; exact Lib.nDigits_le20 _ (by omega)
theorem itoa_len (n : Int) (h0 : -9223372036854775808 ≤ n) (h1 : n ≤ 9223372036854775807) : (Lib.itoa n).length ≤ 21 := by
 unfold Lib.itoa
 split
 ·rw [List.length_cons, Lib.decDigits_length]; have := Lib.nDigits_le20 n.natAbs (by omega); omega
 ·rw [Lib.decDigits_length]; have := Lib.nDigits_le20 n.toNat (by omega); omega
theorem wordP_len (e : Int) (h0 : -9223372036854775808 ≤ e) (h1 : e ≤ 9223372036854775807) : (wordP e).length ≤ 27 := by
 have := itoa_len e h0 h1
 unfold wordP
 repeat' split
 all_goals simp
 omega
theorem resultP_len (c v : Int) (h0 : -9223372036854775808 ≤ c) (h1 : c ≤ 9223372036854775807) (hv : v ≤ 18446744073709551615) : (resultP c v).length ≤ 27 := by
 have := wordP_len c h0 h1
 have := dec_len v hv
 unfold resultP
 repeat' split
 all_goals first | omega | (simp; omega)
theorem itoa_any (n : Int) (h0 : -9223372036854775808 ≤ n) (h1 : n ≤ 9223372036854775807) (w : World) (htab : PowTab w) :
 Calls Tryz.prog 32 #[.int .i64 n] w fun e w' => e = .returned (.string (str (Lib.itoa n))) ∧ Below w.heap.size w w' := by
 refine (Tryz.strconv_Itoa n h0 h1 w htab).mono ?_
 rintro e w' ⟨rfl, k, os, rfl⟩
 exact ⟨rfl, Lib.below_grow _ w (Nat.le_refl _) k os⟩
theorem num_any (u : Int) (h0 : 0 ≤ u) (h1 : u ≤ 18446744073709551615) (w : World) (htab : PowTab w) :
 Calls Tryz.prog 35 #[.int .u64 u] w fun e w' => e = .returned (.string (str (dec u))) ∧ Below w.heap.size w w' := by
 obtain ⟨n, rfl⟩ : ∃ n : Nat, u = (n : Int) := ⟨u.toNat, by omega⟩
 go_enter Tryz.func35, Tryz.ntmps35
 go_wp2_with (go_at_call 62; refine (fuint_any n (by omega) _ htab).mono ?_; rintro e w' ⟨rfl, hb⟩)
 go_ret
 exact ⟨rfl, hb⟩
set_option maxHeartbeats 2000000 in
theorem word_any (e : Int) (h0 : -9223372036854775808 ≤ e) (h1 : e ≤ 9223372036854775807) (w : World) (htab : PowTab w) :
 Calls Tryz.prog 16 #[.int .i64 e] w fun x w' => x = .returned (.string (str (wordP e))) ∧ Below w.heap.size w w' := by
 have HT := Lib.hid htab
 clear htab
 by_cases c0 : e = 30
 ·subst c0
  go_enter Tryz.func16, Tryz.ntmps16
  go_wp2
  go_ret
  exact ⟨rfl, Below.refl _ _⟩
 by_cases c1 : e = 40
 ·subst c1
  go_enter Tryz.func16, Tryz.ntmps16
  go_wp2
  go_ret
  exact ⟨rfl, Below.refl _ _⟩
 by_cases c2 : e = 41
 ·subst c2
  go_enter Tryz.func16, Tryz.ntmps16
  go_wp2
  go_ret
  exact ⟨rfl, Below.refl _ _⟩
 by_cases c3 : e = 42
 ·subst c3
  go_enter Tryz.func16, Tryz.ntmps16
  go_wp2
  go_ret
  exact ⟨rfl, Below.refl _ _⟩
 by_cases c4 : e = 43
 ·subst c4
  go_enter Tryz.func16, Tryz.ntmps16
  go_wp2
  go_ret
  exact ⟨rfl, Below.refl _ _⟩
 by_cases c5 : e = 44
 ·subst c5
  go_enter Tryz.func16, Tryz.ntmps16
  go_wp2
  go_ret
  exact ⟨rfl, Below.refl _ _⟩
 by_cases c6 : e = 45
 ·subst c6
  go_enter Tryz.func16, Tryz.ntmps16
  go_wp2
  go_ret
  exact ⟨rfl, Below.refl _ _⟩
 have HW : Hid (wordP e = [101, 114, 114, 111, 114, 32] ++ Lib.itoa e) := by
  show _ = _
  rw [wordP, if_neg c0, if_neg c1, if_neg c2, if_neg c3, if_neg c4, if_neg c5, if_neg c6]
 have g0 : (e == 30) = false := by simpa using c0
 have g1 : (e == 40) = false := by simpa using c1
 have g2 : (e == 41) = false := by simpa using c2
 have g3 : (e == 42) = false := by simpa using c3
 have g4 : (e == 43) = false := by simpa using c4
 have g5 : (e == 44) = false := by simpa using c5
 have g6 : (e == 45) = false := by simpa using c6
 obtain ⟨I, hI⟩ : ∃ I, str (Lib.itoa e) = I := ⟨_, rfl⟩
 have hIs : I.size ≤ 21 := by rw [← hI, str_size]; exact itoa_len e h0 h1
 have HI := Lib.hid hI
 clear hI c0 c1 c2 c3 c4 c5 c6
 go_enter Tryz.func16, Tryz.ntmps16
 go_wp2_with fail
 refine (itoa_any e h0 h1 _ HT.out).mono ?_
 rintro x w' ⟨rfl, hb⟩
 rw [HI.out]
 have HB := Lib.hid hb
 clear hb
 go_wp2
 go_ret
 refine ⟨?_, HB.out⟩
 rw [HW.out, ← str_app, HI.out]; rfl
abbrev RdS (w : World) (B : Nat) (A : Option Addr) (n : Nat) (xs : List ByteArray) : Prop := Rd w B 1 A n (xs.map Value.string)
theorem Rd.strLen {w : World} {B n : Nat} {A : Option Addr} {xs : List ByteArray} (h : RdS w B A n xs) : xs.length = n := by
 have := h.len; rw [List.length_map] at this; omega
set_option maxHeartbeats 1000000 in
theorem line_any (xs : List ByteArray) (A : Option Addr) (n c : Nat) (w : World) (hr : RdS w w.heap.size A n xs) (h0 : 0 < n) (hn : n ≤ 100000) (hc : n ≤ c) (hlen : (Lib.join (xs.map (·.data.toList)) [32]).length ≤ 1000000) :
 Calls Tryz.prog 31 #[.slice A n c] w fun e w' => e = .returned (.string (str (lineP (xs.map (·.data.toList))))) ∧ Below w.heap.size w w' := by
 have hl := hr.strLen
 obtain ⟨b, o, rfl, hb, hcell⟩ := hr.at_ h0
 have hcells : ∀ (j : Nat) x, xs[j]? = some x → w.cell? ⟨b, o + j, none⟩ = some (.string x) := fun j x hx => hcell j _ (by rw [List.getElem?_map, hx]; rfl)
 have h32 : (⟨#[32]⟩ : ByteArray).data.toList = [32] := rfl
 have HJ : Hid (Calls Tryz.prog 60 #[.slice (some ⟨b, o, none⟩) n c, .string ⟨#[32]⟩] w fun e w' => e = .returned (.string (str (Lib.join (xs.map (·.data.toList)) [32]))) ∧ Below w.heap.size w w') := by
  have h := Tryz.strings_Join b o c xs ⟨#[32]⟩ w hcells hb (by omega) (by omega) (by rw [h32]; omega)
  rw [h32, hl] at h
  exact h
 obtain ⟨J, hJ⟩ : ∃ J, str (Lib.join (xs.map (·.data.toList)) [32]) = J := ⟨_, rfl⟩
 have hJs : J.size ≤ 1000000 := by rw [← hJ, str_size]; exact hlen
 have HJe := Lib.hid hJ
 clear hJ hcells hcell hr hlen
 go_enter Tryz.func31, Tryz.ntmps31
 go_wp2_with fail
 refine HJ.out.mono ?_
 rintro e w' ⟨rfl, hb2⟩
 rw [HJe.out]
 have HB := Lib.hid hb2
 clear hb2
 go_wp2
 go_ret
 refine ⟨?_, HB.out⟩
 rw [lineP, ← str_app, HJe.out]; rfl
set_option maxHeartbeats 1000000 in
theorem result_any (c v : Int) (h0 : -9223372036854775808 ≤ c) (h1 : c ≤ 9223372036854775807) (hv0 : 0 ≤ v) (hv1 : v ≤ 18446744073709551615) (w : World) (htab : PowTab w) :
 Calls Tryz.prog 17 #[.agg #[.int .i64 c, .int .u64 v]] w fun e w' => e = .returned (.string (str (resultP c v))) ∧ Below w.heap.size w w' := by
 have HT : Hid (PowTab (w.alloc (.cells #[.int .i64 c, .int .u64 v] 47))) := htab.below ((Below.refl _ _).alloc (Nat.le_refl _) _)
 have HBx : Hid (Below w.heap.size w (w.alloc (.cells #[.int .i64 c, .int .u64 v] 47))) := (Below.refl _ _).alloc (Nat.le_refl _) _
 clear htab
 by_cases c0 : c = 0
 ·subst c0
  go_enter Tryz.func17, Tryz.ntmps17
  go_wp2_with fail
  refine (num_any v hv0 hv1 _ HT.out).mono ?_
  rintro e w' ⟨rfl, hb⟩
  have HB := Lib.hid (HBx.out.trans (hb.mono (by simp)))
  clear hb
  go_wp2
  go_ret
  exact ⟨rfl, HB.out⟩
 have g0 : (c == 0) = false := by simpa using c0
 by_cases c1 : c = 40
 ·subst c1
  obtain ⟨D, hD⟩ : ∃ D, str (dec v) = D := ⟨_, rfl⟩
  have hDs : D.size ≤ 20 := by rw [← hD, str_size]; exact dec_len v hv1
  have HD := Lib.hid hD
  have HR : Hid (resultP 40 v = [97, 98, 111, 114, 116, 32] ++ dec v) := rfl
  clear hD c0
  go_enter Tryz.func17, Tryz.ntmps17
  go_wp2_with fail
  refine (num_any v hv0 hv1 _ HT.out).mono ?_
  rintro e w' ⟨rfl, hb⟩
  rw [HD.out]
  have HB := Lib.hid (HBx.out.trans (hb.mono (by simp)))
  clear hb
  go_wp2
  go_ret
  refine ⟨?_, HB.out⟩
  rw [HR.out, ← str_app, HD.out]; rfl
 have g1 : (c == 40) = false := by simpa using c1
 have HR : Hid (resultP c v = wordP c) := by show _ = _; rw [resultP, if_neg c0, if_neg c1]
 clear c0 c1
 go_enter Tryz.func17, Tryz.ntmps17
 go_wp2_with fail
 refine (word_any c h0 h1 _ HT.out).mono ?_
 rintro e w' ⟨rfl, hb⟩
 have HB := Lib.hid (HBx.out.trans (hb.mono (by simp)))
 clear hb
 go_wp2
 go_ret
 exact ⟨by rw [HR.out]; rfl, HB.out⟩
end Go.Proofs.YtiiaingepbkikaaGreatDoor
namespace Go.Proofs.YtiiaingepbkikaaGreatDoor
open Go.RowKit
set_option linter.unusedVariables false
theorem whoP_len (who : Int) : (whoP who).length ≤ 1 := by unfold whoP; split <;> simp
theorem progP_len (names : List ByteArray) (p : Int) (hsz : ∀ x ∈ names, x.size ≤ 1000) : (progP names p).length ≤ 1000 := by
 unfold progP
 split
 ·rename_i h
  have hk : p.toNat < names.length := by omega
  rw [List.getD_eq_getElem?_getD, List.getElem?_eq_getElem hk]
  exact hsz _ (List.getElem_mem hk)
 ·simp
theorem parts_len (names : List ByteArray) (r : Rec) (hok : r.Ok) (hsz : ∀ x ∈ names, x.size ≤ 1000) : (Lib.join (partsP names r) [32]).length ≤ 1400 := by
 have h1 := whoP_len r.who
 have h2 := itoa_len r.tag hok.tag.1 hok.tag.2
 have h3 := progP_len names r.prog hsz
 have h4 := dec_len r.a0 hok.a0.2
 have h5 := dec_len r.a1 hok.a1.2
 have h6 := dec_len r.a2 hok.a2.2
 have h7 := dec_len r.a3 hok.a3.2
 have h8 := itoa_len r.from_ hok.from_.1 hok.from_.2
 have h9 := itoa_len r.till hok.till.1 hok.till.2
 have h10 := itoa_len r.steps hok.steps.1 hok.steps.2
 have h11 : (if r.done = true then resultP r.code r.val else [45] : Bys).length ≤ 27 := by
  split
  ·exact resultP_len r.code r.val hok.code.1 hok.code.2 hok.val.2
  ·simp
 unfold partsP
 rw [Lib.join_cons]
 simp only [Lib.joinTail, List.map_cons, List.map_nil, List.flatten_cons, List.flatten_nil, List.length_append, List.length_cons, List.length_nil]
 omega
end Go.Proofs.YtiiaingepbkikaaGreatDoor
namespace Go.Proofs.YtiiaingepbkikaaGreatDoor
open Go.RowKit
set_option linter.unusedVariables false
theorem step_app {P : Program} (w : World) {ops : Array Oper} {o : Oper} {a : Act} {K : Act → World → Prop} {Q : Exit → Act → World → Prop} {E : Prop} (hgd : o.guard = none) (s x : Operand) (t : TypeId)
 (ho : o.op = .call { callee := .builtin .append, args := #[s, x], argTypes := #[t, t] })
 (base : Nat) (e : TypeId) (i : TypeInfo) (z : Value) (size bytes : Nat) (ht : P.underlying t = some (.slice e)) (hi : P.info? e = some i) (hz : i.zero = some z)
 (hsize : i.size = size) (hby : i.bytes = bytes) (hzs : z.cells.size = size) (hsz : 0 < size)
 (v : Value) (n : Nat) (xs : List Value) (hs : a.eval s = v) (hown : w.ownsRow base e size v n xs)
 (B : Nat) (A : Option Addr) (m c : Nat) (news : List Value) (hx : a.eval x = .slice A m c) (hr : Rd w B size A m news) (h1 : ∀ u ∈ news, u.oneCell' = true)
 (h63 : n + m ≤ maxLen) (hbytes : (n + m) * bytes ≤ 140737488355328) (hbase : base ≤ w.heap.size)
 (h : ∀ v' w', w'.ownsRow base e size v' (n + m) (xs ++ news) → w.grownBy w' v.ownBlock → (v'.ownBlock = v.ownBlock ∨ v'.ownBlock = some w.heap.size) → K (a.put o.dst v') w') :
 if Region.wanted o (yielded ops a.tmps) = true then Oper.wp P o a w K Q else E := by
 have hw : Region.wanted o (yielded ops a.tmps) = true := by simp [Region.wanted, hgd]
 rw [if_pos hw]
 obtain ⟨v', w', hrun, h2, h3, h4⟩ := run_app (P := P) w base t o.type e i z size bytes ht hi hz hsize hby hzs hsz v n xs hown B A m c news hr h1 h63 hbytes hbase
 unfold Oper.wp execOp
 simp only [ho, resolve, invoke, builtin, Sem.run_bind, Sem.run_pure, Result.andThen_ok, List.map_toArray, List.map_cons, List.map_nil, hs, hx, hrun]
 exact h v' w' h2 h3 h4
end Go.Proofs.YtiiaingepbkikaaGreatDoor
