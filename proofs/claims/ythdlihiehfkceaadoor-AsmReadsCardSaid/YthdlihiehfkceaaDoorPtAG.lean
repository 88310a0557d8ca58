/-
  Texts of one proof, joined (wip/gen/pack.py): AsmI, AsmJ, GlyG, GlyI.
-/
import Derived.Test.YthdlihiehfkceaaDoorPtAF
import Derived.Test.YthdlihiehfkceaaDoorPtAE
import Derived.Laws.Cover4
import Derived.Test.YthdlihiehfkceaaDoorPtAA
import Derived.Shelf.Strings.Builder1
import Derived.Shelf.Strings.BuilderK
import Derived.Lib.FrozenHead2
import Derived.Lib.OthersKept
import Derived.Test.YthdlihiehfkceaaDoorPtAD
namespace Go.Proofs.YthdlihiehfkceaaDoor
open Go.RowKit Go.Maps Go.WideMaps
set_option linter.unusedVariables false

def bump (cnt : Int → Nat) (x : Int) : Int → Nat := fun y => if y = x then cnt y + 1 else cnt y
/-- How many jumps go to each place; none: one goes nowhere, or an instruction isn't plain. -/
def targGo (n : Nat) : List Ins → Nat → (Int → Nat) → Option (Int → Nat)
  | [], _, cnt => some cnt
  | i :: r, k, cnt => if plainB i.op i.a i.b i.c i.imm = false then none else if goesP i.op = false then targGo n r (k + 1) cnt
    else if (n : Int) < i.imm ∨ forthP i.op k i.imm = false then none else targGo n r (k + 1) (bump cnt i.imm)
def targP (code : List Ins) : Option (Int → Nat) := targGo code.length code 0 (fun _ => 0)
def ck (x : Int) : Lit := .int .i64 x
structure Cnts (D : DataW Unit) (cnt : Int → Nat) (k : Nat) : Prop where
  val : ∀ x, D.atKey (ck x) (.lit (.int .i64 0)) = .lit (.int .i64 (cnt x))
  le : ∀ x, cnt x ≤ k
theorem ck_ne {x y : Int} (h : x ≠ y) : ck x ≠ ck y := fun e => by unfold ck at e; injection e with _ e; exact h e
theorem Cnts.bump {D : DataW Unit} {cnt : Int → Nat} {k : Nat} (h : Cnts D cnt k) (hD : Maps.IsMap D) (x : Int) : Cnts (D.put (ck x) (.lit (.int .i64 ((cnt x : Int) + 1)))) (bump cnt x) (k + 1) := by
  have hkl : WideAt.IsKeyLit (ck x) := by first | exact trivial | exact ⟨_, _, rfl⟩ | simp [WideAt.IsKeyLit, ck]
  refine ⟨fun y => ?_, fun y => ?_⟩
  · by_cases e : y = x
    · subst e; rw [Maps.atKey_put_same hD hkl]; simp [Go.Proofs.YthdlihiehfkceaaDoor.bump]
    · rw [Maps.atKey_put_other (ck_ne e), h.val]; simp [Go.Proofs.YthdlihiehfkceaaDoor.bump, e]
  · have := h.le y
    unfold Go.Proofs.YthdlihiehfkceaaDoor.bump
    split <;> omega
theorem Cnts.more {D : DataW Unit} {cnt : Int → Nat} {k : Nat} (h : Cnts D cnt k) : Cnts D cnt (k + 1) := ⟨h.val, fun x => Nat.le_succ_of_le (h.le x)⟩
def TargPost (code : List Ins) (w : World) (e : Ending) (w' : World) : Prop :=
  Below w.heap.size w w' ∧ ((targP code = none ∧ e = .returned (.tuple #[.map none, .bool false])) ∨
    ∃ cnt D n, targP code = some cnt ∧ e = .returned (.tuple #[.map (some w.heap.size), .bool true]) ∧ w'.ownsMap Tryd.prog 3 (plainElem (H := Unit) Tryd.prog 3) w.heap.size n D ∧ Cnts D cnt code.length)

set_option maxRecDepth 100000 in
set_option maxHeartbeats 4000000 in
theorem targets_any (code : List Ins) (A : Option Addr) (n c : Nat) (w : World) (hr : RdI w w.heap.size A n code) (hn : n ≤ 100000) (hok : ∀ i ∈ code, i.Ok) :
    Calls Tryd.prog 21 #[.slice A n c] w (TargPost code w) := by
  have hlen := hr.insLen
  have HR := Lib.hid hr
  have hmm := @run_makeMap Tryd.prog
  clear hr
  go_enter Tryd.func21, Tryd.ntmps21
  go_wp2
  go_loopw [10] (fun i wr => ∃ (k m : Nat) (cnt : Int → Nat) (D : DataW Unit), (k ≤ n ∧ i = .int .i64 k ∧ m ≤ k) ∧ Hid (targGo n (code.drop k) k cnt = targP code) ∧ Hid (wr.ownsMap Tryd.prog 3 (plainElem (H := Unit) Tryd.prog 3) w.heap.size m D) ∧ Hid (Cnts D cnt k) ∧ Hid (Below w.heap.size w wr)) (fun i _ => n - (intOf i).toNat)
  case atStart =>
    refine ⟨0, 0, fun _ => 0, .map [], ⟨by omega, rfl, by omega⟩, ?_, World.ownsMap_made _ _ _ _, ⟨fun x => rfl, fun x => Nat.le_refl _⟩, (Below.refl _ _).alloc (Nat.le_refl _) _⟩
    show _ = _
    rw [targP, hlen]; rfl
  case round =>
    obtain ⟨k, m, cnt, D, ⟨hk, rfl, hm⟩, HG, HM, HC, HB⟩ := hrel
    by_cases hlt : k < n
    · have hlti : (k : Int) < (n : Int) := by omega
      obtain ⟨b, o, ⟨oo, oa, ob, oc, om⟩, rfl, hbB, hik, c0, c1, c2, c3, c4⟩ := (HR.out.below HB.out).insAt hlt
      have hi := hok _ (List.mem_of_getElem? hik)
      have hdr : code.drop k = ⟨oo, oa, ob, oc, om⟩ :: code.drop (k + 1) := by
        have hkl : k < code.length := by omega
        rw [List.drop_eq_getElem_cons hkl]; rw [List.getElem?_eq_getElem hkl] at hik; injection hik with hik; rw [hik]
      have hg := HG.out
      rw [hdr, targGo] at hg
      simp only at hg
      have HOk := Lib.hid hi
      clear hdr hik hi
      go_upto_region 5 with fail
      obtain ⟨W1, hW1⟩ : ∃ W1, wr.alloc (.cells #[.int .i64 oo, .int .i64 oa, .int .i64 ob, .int .i64 oc, .int .u64 om] 35) = W1 := ⟨_, rfl⟩
      rw [hW1]
      have HI1 : Hid (Bk W1 wr.heap.size 35 #[.int .i64 oo, .int .i64 oa, .int .i64 ob, .int .i64 oc, .int .u64 om]) := by show Bk _ _ _ _; rw [← hW1]; exact Bk.new _ _ _
      have hg1 : wr.grownBy W1 none := by rw [← hW1]; exact World.grownBy_alloc _ _ _
      have HM1 := Lib.hid (HM.out.kept hg1 (by simp))
      have HB1 := Lib.hid (HB.out.grown hg1 HB.out.size (fun r e => by cases e))
      have j0 : W1.cell? ⟨wr.heap.size, 0, none⟩ = some (.int .i64 oo) := HI1.out.cell 0
      have j1 : W1.cell? ⟨wr.heap.size, 1, none⟩ = some (.int .i64 oa) := HI1.out.cell 1
      have j2 : W1.cell? ⟨wr.heap.size, 2, none⟩ = some (.int .i64 ob) := HI1.out.cell 2
      have j3 : W1.cell? ⟨wr.heap.size, 3, none⟩ = some (.int .i64 oc) := HI1.out.cell 3
      have j4 : W1.cell? ⟨wr.heap.size, 4, none⟩ = some (.int .u64 om) := HI1.out.cell 4
      clear hW1 hg1 c0 c1 c2 c3 c4
      obtain ⟨pb, hpb⟩ : ∃ pb, plainB oo oa ob oc om = pb := ⟨_, rfl⟩
      rw [hpb] at hg
      have HPb := Lib.hid hpb
      clear hpb
      cases pb
      · rw [if_pos rfl] at hg
        have HE := Lib.hid hg.symm
        clear hg
        go_wp2_with (go_at_call 43; refine (plain_any _ _ _ _ _ _).mono ?_; rintro e w2 ⟨rfl, hb2⟩; rw [HPb.out]; have HB2 := Lib.hid (HB1.out.trans (hb2.mono HB1.out.size)); clear hb2 j0 j1 j2 j3 j4)
        go_ret2
        exact ⟨HB2.out, .inl ⟨HE.out, rfl⟩⟩
      · rw [if_neg (by simp)] at hg
        obtain ⟨gs, hgs⟩ : ∃ gs, goesP oo = gs := ⟨_, rfl⟩
        rw [hgs] at hg
        have HGs := Lib.hid hgs
        clear hgs
        have hplain := plain_any oo oa ob oc om W1
        rw [HPb.out] at hplain
        cases gs
        · rw [if_pos rfl] at hg
          have HE := Lib.hid hg
          clear hg
          go_wp2_with (first
            | (go_at_call 43
               refine hplain.mono ?_
               rintro e w2 ⟨rfl, hb2⟩
               have HB2 := Lib.hid (HB1.out.trans (hb2.mono HB1.out.size))
               have HM2 := Lib.hid (HM1.out.kept (grown_of_below hb2) (by simp))
               have q0 : w2.cell? ⟨wr.heap.size, 0, none⟩ = some (.int .i64 oo) := (HI1.out.below hb2 HI1.out.lt).cell 0
               clear hb2 j0 j1 j2 j3 j4)
            | (go_at_call 44; refine (jumps_any _ _).mono ?_; rintro e w9 ⟨rfl, he9⟩; obtain rfl : w2 = w9 := he9.symm; rw [HGs.out]))
          go_roundw
          case rel => exact ⟨k + 1, m, cnt, D, ⟨by omega, by go_num, by omega⟩, HE, HM2.out, HC.out.more, HB2.out⟩
          case measure => simp [intOf]; omega
        · rw [if_neg (by simp)] at hg
          have hom := HOk.out.imm
          simp only at hom
          by_cases hbig : (n : Int) < om
          · rw [if_pos (.inl hbig)] at hg
            have HE := Lib.hid hg.symm
            have hd : decide (om > (n : Int)) = true := decide_eq_true hbig
            clear hg
            go_wp2_with (first
            | (go_at_call 43
               refine hplain.mono ?_
               rintro e w2 ⟨rfl, hb2⟩
               have HB2 := Lib.hid (HB1.out.trans (hb2.mono HB1.out.size))
               have HM2 := Lib.hid (HM1.out.kept (grown_of_below hb2) (by simp))
               have hi2 := HI1.out.below hb2 HI1.out.lt
               have q0 : w2.cell? ⟨wr.heap.size, 0, none⟩ = some (.int .i64 oo) := hi2.cell 0
               have q4 : w2.cell? ⟨wr.heap.size, 4, none⟩ = some (.int .u64 om) := hi2.cell 4
               clear hb2 hi2 j0 j1 j2 j3 j4)
            | (go_at_call 44; refine (jumps_any _ _).mono ?_; rintro e w9 ⟨rfl, he9⟩; obtain rfl : w2 = w9 := he9.symm; rw [HGs.out]))
            go_ret2
            exact ⟨HB2.out, .inl ⟨HE.out, rfl⟩⟩
          · have hd : decide (om > (n : Int)) = false := decide_eq_false hbig
            obtain ⟨x, rfl⟩ : ∃ x : Nat, om = (x : Int) := ⟨om.toNat, by omega⟩
            have hxn : x ≤ n := by omega
            obtain ⟨fb, hfb⟩ : ∃ fb, forthP oo k x = fb := ⟨_, rfl⟩
            rw [hfb] at hg
            have HFb := Lib.hid hfb
            clear hfb hbig
            cases fb
            · rw [if_pos (.inr rfl)] at hg
              have HE := Lib.hid hg.symm
              clear hg
              go_wp2_with (first
            | (go_at_call 43
               refine hplain.mono ?_
               rintro e w2 ⟨rfl, hb2⟩
               have HB2 := Lib.hid (HB1.out.trans (hb2.mono HB1.out.size))
               have HM2 := Lib.hid (HM1.out.kept (grown_of_below hb2) (by simp))
               have hi2 := HI1.out.below hb2 HI1.out.lt
               have q0 : w2.cell? ⟨wr.heap.size, 0, none⟩ = some (.int .i64 oo) := hi2.cell 0
               have q4 : w2.cell? ⟨wr.heap.size, 4, none⟩ = some (.int .u64 (x : Int)) := hi2.cell 4
               clear hb2 hi2 j0 j1 j2 j3 j4)
            | (go_at_call 44; refine (jumps_any _ _).mono ?_; rintro e w9 ⟨rfl, he9⟩; obtain rfl : w2 = w9 := he9.symm; rw [HGs.out])
            | (go_at_call 45; refine (forth_any _ _ _ _).mono ?_; rintro e w9 ⟨rfl, he9⟩; obtain rfl : w2 = w9 := he9.symm; rw [HFb.out]))
              go_ret2
              exact ⟨HB2.out, .inl ⟨HE.out, rfl⟩⟩
            · rw [if_neg (by simp; omega)] at hg
              have HE := Lib.hid hg
              clear hg
              go_upto_region 10 with (first
            | (go_at_call 43
               refine hplain.mono ?_
               rintro e w2 ⟨rfl, hb2⟩
               have HB2 := Lib.hid (HB1.out.trans (hb2.mono HB1.out.size))
               have HM2 := Lib.hid (HM1.out.kept (grown_of_below hb2) (by simp))
               have hi2 := HI1.out.below hb2 HI1.out.lt
               have q0 : w2.cell? ⟨wr.heap.size, 0, none⟩ = some (.int .i64 oo) := hi2.cell 0
               have q4 : w2.cell? ⟨wr.heap.size, 4, none⟩ = some (.int .u64 (x : Int)) := hi2.cell 4
               clear hb2 hi2 j0 j1 j2 j3 j4)
            | (go_at_call 44; refine (jumps_any _ _).mono ?_; rintro e w9 ⟨rfl, he9⟩; obtain rfl : w2 = w9 := he9.symm; rw [HGs.out])
            | (go_at_call 45; refine (forth_any _ _ _ _).mono ?_; rintro e w9 ⟨rfl, he9⟩; obtain rfl : w2 = w9 := he9.symm; rw [HFb.out]))
              have hKi := Tryd.underlying3
              have hkey : keyOf Tryd.prog 3 (.int .i64 x) = some (ck x) := keyOf_int_mk hKi (by simp [Lit.wf, IntKind.min, IntKind.max, IntKind.signed, IntKind.bits]; omega)
              have hmN : m < maxLen := by unfold maxLen; omega
              obtain ⟨y, hy⟩ : ∃ y, cnt (x : Int) = y := ⟨_, rfl⟩
              have hyk : y ≤ k := by rw [← hy]; exact HC.out.le _
              have hat0 : D.atKey (ck x) (.lit (.int .i64 0)) = .lit (.int .i64 y) := by rw [HC.out.val, hy]
              have HA0 := Lib.hid hat0
              have HY := Lib.hid hy
              clear hat0 hy
              have hwf : (Lit.int .i64 ((y : Int) + 1)).wf = true := by
                simp [Lit.wf, IntKind.min, IntKind.max, IntKind.signed, IntKind.bits]
                omega
              go_wp2_with (first
                | (at_lookup
                   refine wpList_lookup_own_int _ rfl (.tmp 38) (.tmp 41) 46 rfl 3 3 .i64 (int_keyed hKi) Tryd.underlying46 hKi (by kernel_rfl) w.heap.size m D rfl HM2.out _ _ rfl hkey ?_
                   intro cc hat hwc
                   obtain rfl : cc = (y : Int) := by
                     have h := hat.symm.trans HA0.out
                     simpa using h
                   clear hat hwc)
                | (at_mapUpdate
                   refine wpList_mapUpdate_own _ rfl (.tmp 38) (.tmp 41) (.tmp 43) 46 rfl 3 3 (int_keyed hKi) Tryd.underlying46 (plainElem (H := Unit) Tryd.prog 3) w.heap.size m D rfl HM2.out hmN _ _ _ rfl rfl hkey _ _ (plainElem_int hKi hwf) ?_
                   intro w9 hown9 hg9)
                | fail)
              have HM9 := Lib.hid hown9
              have HB9 := Lib.hid (HB2.out.grown hg9 HB2.out.size (fun r e => by cases e; exact Nat.le_refl _))
              have HC9 : Hid (Cnts (D.put (ck x) (.lit (.int .i64 ((y : Int) + 1)))) (bump cnt x) (k + 1)) := by
                have h := HC.out.bump HM2.out.isMap (x : Int)
                rw [HY.out] at h; exact h
              clear hown9 hg9
              go_roundw
              case rel => exact ⟨k + 1, m + 1, bump cnt x, _, ⟨by omega, by go_num, by omega⟩, HE, HM9.out, HC9.out, HB9.out⟩
              case measure => simp [intOf]; omega
    · obtain rfl : k = n := by omega
      have hg := HG.out
      rw [← hlen, List.drop_length, targGo] at hg
      have HE := Lib.hid hg.symm
      have HLn := Lib.hid hlen
      clear hg
      go_wp2
      go_ret2
      exact ⟨HB.out, .inr ⟨cnt, D, m, HE.out, rfl, HM.out, by rw [HLn.out]; exact HC.out⟩⟩
end Go.Proofs.YthdlihiehfkceaaDoor

namespace Go.Proofs.YthdlihiehfkceaaDoor
open Go.RowKit
set_option linter.unusedVariables false

/-- A line's tokens. -/
def lineToks (i : Ins) : List Tok := (formP i.op).map fun c => tokP c i
def headP (cnt : Int → Nat) (k : Nat) : List UInt8 := if 0 < cnt k then (labelP k).data.toList ++ [32, 58, 10] else []
def textGo (cnt : Int → Nat) : List Ins → Nat → List UInt8
  | [], k => headP cnt k
  | i :: r, k => headP cnt k ++ (printP (lineToks i) ++ [10]) ++ textGo cnt r (k + 1)
/-- A program's text. -/
def textP (code : List Ins) : ByteArray := match targP code with
  | none => ⟨#[]⟩
  | some cnt => if 256 < code.length then ⟨#[]⟩ else ⟨(textGo cnt code 0).toArray⟩
theorem regName_le (n : Nat) : (regName n).size ≤ 3 := by
  unfold regName
  split
  · show 2 ≤ 3; omega
  · show 3 ≤ 3; omega
theorem labelP_le (n : Nat) (h : n < 18446744073709551616) : (labelP n).size ≤ 21 := by
  have hdl : (Lib.decDigits n).length ≤ 20 := by rw [Lib.decDigits_length]; exact Lib.nDigits_le20 n h
  unfold labelP
  rw [ByteArray.size_append]
  show 1 + (Lib.decDigits n).toArray.size ≤ 21
  simp; omega
theorem wordP_le (c : Nat) : (wordP c).size ≤ 5 := by
  unfold wordP
  repeat' split
  all_goals (first | exact Nat.le_refl _ | decide | (show _ ≤ 5; simp [ByteArray.size]))
theorem tokText_le (c : Nat) (i : Ins) (h : 0 ≤ i.imm ∧ i.imm ≤ 18446744073709551615) : (tokText (tokP c i)).length ≤ 24 := by
  have hs : ∀ s : ByteArray, s.data.toList.length = s.size := fun s => rfl
  unfold tokP
  split
  · show (if (0 : Int) = 1 then _ else _ : List UInt8).length ≤ 24
    rw [if_neg (by decide), hs]; have := regName_le i.a.toNat; simp only; omega
  split
  · show (if (0 : Int) = 1 then _ else _ : List UInt8).length ≤ 24
    rw [if_neg (by decide), hs]; have := regName_le i.b.toNat; simp only; omega
  split
  · show (if (0 : Int) = 1 then _ else _ : List UInt8).length ≤ 24
    rw [if_neg (by decide), hs]; have := regName_le i.c.toNat; simp only; omega
  split
  · show (if (1 : Int) = 1 then _ else _ : List UInt8).length ≤ 24
    rw [if_pos rfl]
    have hdl : (Lib.decDigits i.imm.toNat).length ≤ 20 := by rw [Lib.decDigits_length]; exact Lib.nDigits_le20 _ (by omega)
    simp only; omega
  split
  · show (if (0 : Int) = 1 then _ else _ : List UInt8).length ≤ 24
    rw [if_neg (by decide), hs]; have := labelP_le i.imm.toNat (by omega); simp only; omega
  split
  · show (if (0 : Int) = 1 then _ else _ : List UInt8).length ≤ 24
    rw [if_neg (by decide), hs]; have := wordP_le c; simp only; omega
  · show (if (2 : Int) = 1 then _ else _ : List UInt8).length ≤ 24
    rw [if_neg (by decide), hs]; have := encode_size_le (c : Int); simp only; omega
theorem printGo_le (m : Nat) : ∀ (l : List Tok) (b : Bool), (∀ t ∈ l, (tokText t).length ≤ m) → (printGo l b).length ≤ (m + 1) * l.length
  | [], b, _ => Nat.zero_le _
  | t :: r, b, h => by
    have ih := fun b' => printGo_le m r b' (fun t ht => h t (List.mem_cons_of_mem _ ht))
    have ht := h t (List.mem_cons_self ..)
    have hl : (m + 1) * (t :: r).length = (m + 1) * r.length + (m + 1) := by rw [List.length_cons, Nat.mul_add, Nat.mul_one]
    rw [printGo, hl]
    split
    · have := ih true; simp only [List.length_cons]; omega
    split
    · have := ih b; omega
    · have := ih false
      simp only [List.length_append]
      split <;> simp <;> omega
theorem form_le (op : Int) : (formP op).length ≤ 7 := by
  have hi : ∀ (p : Prop) [Decidable p] (a b : List Nat), a.length ≤ 7 → b.length ≤ 7 → (if p then a else b).length ≤ 7 := fun p _ a b ha hb => by split <;> assumption
  unfold formP
  repeat' first | exact hi _ _ _ (by decide) (by decide) | refine hi _ _ _ (by decide) ?_
theorem lineToks_mem {i : Ins} {t : Tok} (h : t ∈ lineToks i) : ∃ c, t = tokP c i := by
  unfold lineToks at h
  obtain ⟨c, _, rfl⟩ := List.mem_map.1 h
  exact ⟨c, rfl⟩
theorem print_line_le (i : Ins) (h : 0 ≤ i.imm ∧ i.imm ≤ 18446744073709551615) : (printP (lineToks i)).length ≤ 175 := by
  have h1 := printGo_le 24 (lineToks i) true (fun t ht => by obtain ⟨c, rfl⟩ := lineToks_mem ht; exact tokText_le c i h)
  have h2 : (lineToks i).length ≤ 7 := by unfold lineToks; rw [List.length_map]; exact form_le _
  unfold printP
  omega
theorem headP_le (cnt : Int → Nat) (k : Nat) (h : k < 18446744073709551616) : (headP cnt k).length ≤ 24 := by
  unfold headP
  split
  · have := labelP_le k h
    have hs : (labelP k).data.toList.length = (labelP k).size := rfl
    rw [List.length_append, hs]; simp; omega
  · simp
theorem textGo_le (cnt : Int → Nat) : ∀ (l : List Ins) (k : Nat), k + l.length < 18446744073709551616 → (∀ i ∈ l, 0 ≤ i.imm ∧ i.imm ≤ 18446744073709551615) → (textGo cnt l k).length ≤ 200 * (l.length + 1)
  | [], k, hk, _ => by have := headP_le cnt k (by simp at hk; omega); rw [textGo]; simp; omega
  | i :: r, k, hk, h => by
    have hk' : k + 1 + r.length < 18446744073709551616 := by simp at hk; omega
    have ih := textGo_le cnt r (k + 1) hk' (fun j hj => h j (List.mem_cons_of_mem _ hj))
    have h1 := print_line_le i (h i (List.mem_cons_self ..))
    have h2 := headP_le cnt k (by omega)
    rw [textGo]
    simp only [List.length_append, List.length_cons, List.length_nil]
    omega
theorem tok_num (c : Nat) (i : Ins) (h : 0 ≤ i.imm ∧ i.imm ≤ 18446744073709551615) : 0 ≤ (tokP c i).num ∧ (tokP c i).num ≤ 18446744073709551615 := by
  unfold tokP
  repeat' split
  all_goals first | exact h | (show (0 : Int) ≤ 0 ∧ (0 : Int) ≤ 18446744073709551615; decide)
end Go.Proofs.YthdlihiehfkceaaDoor

namespace Go.Proofs.YthdlihiehfkceaaDoor
open Go.RowKit
set_option linter.unusedVariables false

theorem size_builder : (Tryd.prog.info? 51).map (·.size) = some 2 := by kernel_rfl
theorem lies_builder : liesAt Tryd.prog Tryd.prog.depth 51 (2 / Tryd.prog.cellsOf 51) 0 51 1 = true := by kernel_rfl
theorem info_byte : (Tryd.prog.info? 5).map (fun i => (i.zero, i.size, i.bytes)) = some (some (.int .u8 0), 1, 1) := by kernel_rfl
set_option maxRecDepth 100000 in
theorem copy_used (b : Nat) (w : World) (h0 : w.cell? ⟨b, 0, none⟩ = some (.pointer (some ⟨b, 0, none⟩))) :
    Calls Tryd.prog 46 #[.pointer (some ⟨b, 0, none⟩)] w fun e w' => e = .returned (.tuple #[]) ∧ w' = w := by
  obtain ⟨j, hj, _⟩ := Option.map_eq_some_iff.1 size_builder
  go_enter Tryd.func46, Tryd.ntmps46
  go_wp2
  rw [Lib.run_neq_ptr_same w _ Tryd.underlying49 hj]
  go_wp2
  go_end0
  exact ⟨rfl, rfl⟩
set_option maxRecDepth 100000 in
set_option maxHeartbeats 1000000 in
theorem copy_fresh (b : Nat) (w : World) (h0 : w.cell? ⟨b, 0, none⟩ = some (.pointer none)) (hsh : w.shape? b = some (51, 2)) (hfz : w.frozen? ⟨b, 0, none⟩ = false) :
    Calls Tryd.prog 46 #[.pointer (some ⟨b, 0, none⟩)] w fun e w' => e = .returned (.tuple #[]) ∧ w' = w.setCell ⟨b, 0, none⟩ (.pointer (some ⟨b, 0, none⟩)) := by
  obtain ⟨j, hj, hjs⟩ := Option.map_eq_some_iff.1 size_builder
  go_enter Tryd.func46, Tryd.ntmps46
  go_wp2
  rw [Lib.run_to_unsafe w ⟨b, 0, none⟩ Tryd.underlying49 Tryd.underlying123 hj (by rw [hjs]; decide) hsh (Nat.zero_lt_succ 1)]
  simp only [Result.andThen]
  rw [Oper.upon_value]
  go_wp2
  rw [run_callFunc_extern Tryd.func67 (by kernel_rfl) (by kernel_rfl) (by kernel_rfl) (e := Extern.AbiNoEscape.same) (by kernel_rfl)]
  rw [Lib.run_noEscape]
  simp only [Result.andThen]
  rw [Oper.upon_value]
  go_wp2
  rw [Lib.run_from_unsafe w ⟨b, 0, none⟩ Tryd.underlying123 Tryd.underlying49 hj hsh lies_builder]
  simp only [Result.andThen]
  rw [Oper.upon_value]
  go_wp2
  go_end0
  exact ⟨rfl, rfl⟩

/-- A builder of the call's own, in block b, that holds these bytes. -/
abbrev Bld (B b : Nat) (bs : List Value) (w : World) : Prop := Lib.IsBuilderF 51 5 B b bs w
/-- What stays: all below B; all that is neither block b nor a row of bytes. -/
structure FrmB (B b : Nat) (w w' : World) : Prop where
  below : Below B w w'
  kept : Lib.OthersKept 5 (some b) w w'
theorem FrmB.refl (B b : Nat) (w : World) : FrmB B b w w := ⟨Below.refl _ _, Lib.OthersKept.refl _ _ _⟩
theorem FrmB.trans {B b : Nat} {a c d : World} (h : FrmB B b a c) (k : FrmB B b c d) : FrmB B b a d := ⟨h.below.trans k.below, h.kept.trans k.kept⟩
theorem copy_any (B b : Nat) (bs : List Value) (w : World) (h : Bld B b bs w) :
    Calls Tryd.prog 46 #[.pointer (some ⟨b, 0, none⟩)] w fun e w' => e = .returned (.tuple #[]) ∧ Lib.BuilderAtF 51 5 B b (.pointer (some ⟨b, 0, none⟩)) bs w' ∧ FrmB B b w w' := by
  rcases h with h | h
  · refine (copy_fresh b w h.cell0 h.shape h.frozen0).mono ?_
    rintro e w' ⟨rfl, rfl⟩
    exact ⟨rfl, h.used _, (Below.refl B w).setCell (p := ⟨b, 0, none⟩) h.1 _, (Lib.OthersKept.refl _ _ w).setCell ⟨b, 0, none⟩ rfl _⟩
  · refine (copy_used b w h.cell0).mono ?_
    rintro e w' ⟨rfl, rfl⟩
    exact ⟨rfl, h, FrmB.refl _ _ _⟩

set_option maxHeartbeats 2000000 in
set_option maxRecDepth 100000 in
theorem wbyte_any (B b : Nat) (bs : List Value) (c : Int) (w : World) (h : Bld B b bs w) (hlen : bs.length + 1 ≤ 140737488355328) (hBw : B ≤ w.heap.size) :
    Calls Tryd.prog 50 #[.pointer (some ⟨b, 0, none⟩), .int .u8 c] w fun e w' => e = .returned .nilIface ∧ Bld B b (bs ++ [.int .u8 c]) w' ∧ FrmB B b w w' := by
  obtain ⟨i0, hi, hz0, hz1, hz2⟩ := info_parts info_byte
  go_enter Tryd.func50, Tryd.ntmps50
  go_wp2_with (go_at_call 46; refine (copy_any B b bs _ h).mono ?_)
  rintro e w1 ⟨rfl, h1, hb1, hk1⟩
  obtain ⟨hB, v, hbk, hown, hne⟩ := h1
  have c0 : w1.cell? ⟨b, 0, none⟩ = some (.pointer (some ⟨b, 0, none⟩)) := by rw [Lib.cell_of_heap hbk]; rfl
  have c1 : w1.cell? ⟨b, 1, none⟩ = some v := by rw [Lib.cell_of_heap hbk]; rfl
  go_wp2_with (at_builtin; refine wpList_append_ownF _ rfl _ _ 31 rfl B 5 i0 (.int .u8 0) 1 1 Tryd.underlying31 hi hz0 hz1 hz2 rfl (by decide) _ _ _ rfl (hown.alloc _) ⟨w1.heap.size, 0, none⟩ 1 1 [.int .u8 c] rfl rfl ?c1 ?c2 ?c3 ?c4 ?c5 ?_)
  case c1 =>
    intro j u hj
    match j, hj with
    | 0, hj => simp at hj; subst hj; simp [Addr.add]
  case c2 => intro u hu; simp at hu; subst hu; rfl
  case c3 => unfold maxLen; omega
  case c4 => omega
  case c5 => have := hb1.size; simp; omega
  intro v' w2 hown' hgrow _
  have hlt : b < w1.heap.size := by
    rcases Nat.lt_or_ge b w1.heap.size with h' | h'
    · exact h'
    · simp [Array.getElem?_eq_none h'] at hbk
  have hb2 : w2.heap[b]? = some (.cells #[.pointer (some ⟨b, 0, none⟩), v] 51 (0, 0)) := by
    rw [hgrow.block b (by simp; omega) (fun e => hne e.symm), Lib.alloc_old w1 _ b hlt]
    exact hbk
  have d0 : w2.cell? ⟨b, 0, none⟩ = some (.pointer (some ⟨b, 0, none⟩)) := by rw [Lib.cell_of_heap hb2]; rfl
  have d1 : w2.cell? ⟨b, 1, none⟩ = some v := by rw [Lib.cell_of_heap hb2]; rfl
  have f1 : w2.frozen? ⟨b, 1, none⟩ = false := Lib.frozen_of_heap hb2 1
  obtain ⟨g, cap, rfl⟩ : ∃ g cap, v' = .slice (some ⟨g, 0, none⟩) (bs.length + 1) cap := by
    rcases hown'.2 with ⟨_, h0⟩ | ⟨g, cap, cur, fz, hv, _⟩
    · omega
    · exact ⟨g, cap, hv⟩
  go_wp2
  go_ret
  refine ⟨rfl, .inr ?_, ?_, ((hk1.alloc _).grown hgrow (Lib.ownsRowF_kind (hown.alloc _))).setCell ⟨b, 1, none⟩ rfl _⟩
  · exact Lib.BuilderAtF.put (T := 51) (e := 5) hB hb2 (bs' := bs ++ [.int .u8 c]) (by simpa using hown') (by decide)
  · exact ((hb1.alloc (by have := hb1.size; omega) _).grown hgrow (by have := hb1.size; simp; omega) (fun k hk => (hown.lt k hk).1)).setCell (p := ⟨b, 1, none⟩) hB _

set_option maxHeartbeats 2000000 in
set_option maxRecDepth 100000 in
theorem wstring_any (B b : Nat) (bs : List Value) (s : ByteArray) (w : World) (h : Bld B b bs w) (hlen : bs.length + s.size ≤ 140737488355328) (hBw : B ≤ w.heap.size) :
    Calls Tryd.prog 22 #[.pointer (some ⟨b, 0, none⟩), .string s] w fun e w' => e = .returned (.tuple #[.int .i64 s.size, .nilIface]) ∧ Bld B b (bs ++ Lib.strCells s) w' ∧ FrmB B b w w' := by
  obtain ⟨i0, hi, hz0, hz1, hz2⟩ := info_parts info_byte
  go_enter Tryd.func22, Tryd.ntmps22
  go_wp2_with (go_at_call 46; refine (copy_any B b bs _ h).mono ?_)
  rintro e w1 ⟨rfl, h1, hb1, hk1⟩
  obtain ⟨hB, v, hbk, hown, hne⟩ := h1
  have c0 : w1.cell? ⟨b, 0, none⟩ = some (.pointer (some ⟨b, 0, none⟩)) := by rw [Lib.cell_of_heap hbk]; rfl
  have c1 : w1.cell? ⟨b, 1, none⟩ = some v := by rw [Lib.cell_of_heap hbk]; rfl
  go_wp2_with (at_builtin; refine Lib.wpList_append_own_stringF _ rfl _ _ 31 9 rfl B 5 i0 Tryd.underlying31 Tryd.underlying9 hi hz0 hz1 hz2 _ _ _ rfl hown s rfl ?c3 ?c4 ?c5 ?_)
  case c3 => unfold maxLen; omega
  case c4 => omega
  case c5 => have := hb1.size; omega
  intro v' w2 hown' hgrow _
  have hlt : b < w1.heap.size := by
    rcases Nat.lt_or_ge b w1.heap.size with h' | h'
    · exact h'
    · simp [Array.getElem?_eq_none h'] at hbk
  have hb2 : w2.heap[b]? = some (.cells #[.pointer (some ⟨b, 0, none⟩), v] 51 (0, 0)) := by
    rw [hgrow.block b hlt (fun e => hne e.symm)]
    exact hbk
  have d0 : w2.cell? ⟨b, 0, none⟩ = some (.pointer (some ⟨b, 0, none⟩)) := by rw [Lib.cell_of_heap hb2]; rfl
  have d1 : w2.cell? ⟨b, 1, none⟩ = some v := by rw [Lib.cell_of_heap hb2]; rfl
  have f1 : w2.frozen? ⟨b, 1, none⟩ = false := Lib.frozen_of_heap hb2 1
  obtain ⟨ao, n', cap, rfl⟩ : ∃ ao n' cap, v' = .slice ao n' cap := by
    rcases hown'.2 with ⟨hv, _⟩ | ⟨g, cap, cur, fz, hv, _⟩
    · exact ⟨_, _, _, hv⟩
    · exact ⟨_, _, _, hv⟩
  go_wp2
  go_ret2
  refine ⟨rfl, .inr ?_, ?_, (hk1.grown hgrow (Lib.ownsRowF_kind hown)).setCell ⟨b, 1, none⟩ rfl _⟩
  · exact Lib.BuilderAtF.put (T := 51) (e := 5) hB hb2 (bs' := bs ++ Lib.strCells s) (by simpa [Lib.strCells_length] using hown') (by decide)
  · exact (hb1.grown hgrow (by have := hb1.size; omega) (fun k hk => (hown.lt k hk).1)).setCell (p := ⟨b, 1, none⟩) hB _
end Go.Proofs.YthdlihiehfkceaaDoor

namespace Go.Proofs.YthdlihiehfkceaaDoor
open Go.RowKit
set_option linter.unusedVariables false

theorem Bk.keptB {w w' : World} {g B b : Nat} {t : TypeId} {cs : Array Value} (h : Bk w g t cs) (hf : FrmB B b w w') (hg : g ≠ b) (ht : t ≠ 5) : Bk w' g t cs :=
  hf.kept g _ h (by simpa using hg) (fun c fz e => by injection e with _ e; exact ht e)
theorem FrmB.of_below {B b : Nat} {w w' : World} (hB : B ≤ w.heap.size) (hb : Below w.heap.size w w') : FrmB B b w w' :=
  ⟨hb.mono hB, fun k o hk _ _ => (hb.block k (Array.getElem?_eq_some_iff.1 hk).1).trans hk⟩
theorem Bld.below {B b : Nat} {bs : List Value} {w w' : World} (h : Bld B b bs w) (hb : Below w.heap.size w w') : Bld B b bs w' := by
  have hk : ∀ (k : Nat) (o : Obj), w.heap[k]? = some o → w'.heap[k]? = some o := fun k o hk => (hb.block k (Array.getElem?_eq_some_iff.1 hk).1).trans hk
  have hA : ∀ p, Lib.BuilderAtF 51 5 B b p bs w → Lib.BuilderAtF 51 5 B b p bs w' := by
    rintro p ⟨h1, v, h2, h3, h4⟩
    refine ⟨h1, v, hk _ _ h2, ⟨h3.1, ?_⟩, h4⟩
    rcases h3.2 with h0 | ⟨g, cap, cur, fz, hv, hbb, hg, rest⟩
    · exact .inl h0
    · exact .inr ⟨g, cap, cur, fz, hv, hbb, hk _ _ hg, rest⟩
  rcases h with h | h
  · exact .inl (hA _ h)
  · exact .inr (hA _ h)

def PrintPost (l : List Tok) (w : World) (e : Ending) (w' : World) : Prop := e = .returned (.string ⟨(printP l).toArray⟩) ∧ Below w.heap.size w w'

set_option maxRecDepth 100000 in
set_option maxHeartbeats 8000000 in
theorem print_any (l : List Tok) (A : Option Addr) (n c : Nat) (w : World) (hr : RdT w w.heap.size A n l) (hok : ∀ t ∈ l, 0 ≤ t.num ∧ t.num ≤ 18446744073709551615) (hlen : (printP l).length ≤ 140737488355328) (htab : PowTab w) :
    Calls Tryd.prog 26 #[.slice A n c] w (PrintPost l w) := by
  have h63 := hr.le
  unfold maxLen at h63
  have HL := Lib.hid hr.tokLen
  have HR := Lib.hid hr
  have HK := Lib.hid hok
  have HT := Lib.hid htab
  have HLn := Lib.hid hlen
  clear hr hok htab hlen
  go_enter Tryd.func26, Tryd.ntmps26
  go_wp2
  go_loopw [9, 4, 6] (fun t fr _u wr => ∃ (k : Nat) (fresh : Bool) (acc : List UInt8), (k ≤ n ∧ t = .int .i64 k ∧ fr = .bool fresh) ∧ Hid (acc ++ printGo (l.drop k) fresh = printP l) ∧ Bld w.heap.size w.heap.size (Lib.byteCells acc) wr ∧ Below w.heap.size w wr) (fun t _ _ _ => n - (intOf t).toNat)
  case atStart => exact ⟨0, true, [], ⟨by omega, rfl, rfl⟩, rfl, Lib.IsBuilderF.of (Lib.fresh_isBuilder _ _ w), (Below.refl _ _).alloc (Nat.le_refl _) _⟩
  case round =>
    obtain ⟨k, fresh, acc, ⟨hk, rfl, rfl⟩, HA, hbl, hb⟩ := hrel
    obtain ⟨wo, rfl⟩ : ∃ wo : World, wo = wr := ⟨_, rfl⟩
    have HB := Lib.hid hb
    have HBl := Lib.hid hbl
    have hsz := hb.size
    have hbw : w.heap.size < wo.heap.size := by
      rcases hbl with ⟨_, v, h, _⟩ | ⟨_, v, h, _⟩ <;> exact (Array.getElem?_eq_some_iff.1 h).1
    have hal : acc.length ≤ (printP l).length := by rw [← HA.out, List.length_append]; omega
    clear hb hbl
    by_cases hlt : k < n
    · obtain ⟨b0, o0, t, hAd, hbB, ht, c0, c1, c2, c3, c4⟩ := (HR.out.below HB.out).tokAt hlt
      subst hAd
      have HD := Lib.hid (drop_at ht)
      have HOk := Lib.hid (HK.out t (List.mem_of_getElem? ht))
      rw [HD.out, printGo] at HA
      have hnum := HOk.out
      clear ht
      obtain ⟨kind, text, num, at_, line⟩ := t
      simp only at c0 c1 c2 c3 c4 hnum
      have hloc : ∀ o : Obj, Bld w.heap.size w.heap.size (Lib.byteCells acc) (wo.alloc o) := fun o => HBl.out.alloc o
      have HLo := Lib.hid hloc
      have HBa : Hid (∀ o : Obj, Below w.heap.size w (wo.alloc o)) := fun o => HB.out.alloc hsz o
      obtain ⟨wb, hwb⟩ : ∃ wb, wo.alloc (.cells #[.int .i64 kind, .string text, .int .u64 num, .int .i64 at_, .int .i64 line] 58) = wb := ⟨_, rfl⟩
      have BX : Hid (Bk wb wo.heap.size 58 #[.int .i64 kind, .string text, .int .u64 num, .int .i64 at_, .int .i64 line]) := by rw [← hwb]; exact Bk.new wo _ _
      have LX : Hid (Bld w.heap.size w.heap.size (Lib.byteCells acc) wb) := by rw [← hwb]; exact hloc _
      have WX : Hid (Below w.heap.size w wb) := by rw [← hwb]; exact HBa.out _
      have HWB := Lib.hid hwb
      have zX := BX.out.lt
      clear hloc hwb
      have HL0 := HLn.out
      by_cases h3 : kind = 3
      · subst h3
        rw [if_pos rfl] at HA
        go_wp2_with fail
        rw [HWB.out]
        refine (wbyte_any _ _ _ 10 _ LX.out (by rw [Lib.byteCells_length]; have e := congrArg List.length HA.out; simp at e; omega) WX.out.size).mono ?_
        rintro e w1 ⟨rfl, hb1, hf1⟩
        have HA1 : Hid (acc ++ [10] ++ printGo (l.drop (k + 1)) true = printP l) := by
          show _ = _
          rw [← HA.out]; simp
        have HL1 : Hid (Bld w.heap.size w.heap.size (Lib.byteCells (acc ++ [10])) w1) := by rw [Lib.byteCells_append]; exact hb1
        have HB1 := Lib.hid (WX.out.trans hf1.below)
        clear hb1 hf1
        go_wp2
        go_roundw
        case rel => exact ⟨k + 1, true, acc ++ [10], ⟨by omega, by go_num, rfl⟩, HA1, HL1.out, HB1.out⟩
        case measure => simp [intOf]; omega
      · rw [if_neg h3] at HA
        have hb3 : (kind == 3) = false := by simpa using h3
        by_cases hout : kind < 0 ∨ 3 < kind
        · rw [if_pos hout] at HA
          rcases hout with h | h
          · go_wp2
            rw [HWB.out]
            go_roundw
            case rel => exact ⟨k + 1, fresh, acc, ⟨by omega, by go_num, rfl⟩, HA, LX.out, WX.out⟩
            case measure => simp [intOf]; omega
          · have h' : ¬ kind < 0 := by omega
            go_wp2
            rw [HWB.out]
            go_roundw
            case rel => exact ⟨k + 1, fresh, acc, ⟨by omega, by go_num, rfl⟩, HA, LX.out, WX.out⟩
            case measure => simp [intOf]; omega
        · rw [if_neg hout] at HA
          have h0 : ¬ kind < 0 := by omega
          have h4 : ¬ 3 < kind := by omega
          obtain ⟨u, hu⟩ : ∃ u : Nat, num = (u : Int) := ⟨num.toNat, by omega⟩
          subst hu
          have hu64 : u < 18446744073709551616 := by omega
          have HTx : Hid (tokText ⟨kind, text, (u : Int), at_, line⟩ = if kind = 1 then Lib.decDigits u else text.data.toList) := by
            show _ = _
            rw [tokText]; simp only [Int.toNat_natCast]
          rw [HTx.out] at HA
          cases fresh
          · simp only [Bool.false_eq_true, if_false] at HA
            go_wp2_with fail
            rw [HWB.out]
            refine (wbyte_any _ _ _ 32 _ LX.out (by rw [Lib.byteCells_length]; have e := congrArg List.length HA.out; simp at e; omega) WX.out.size).mono ?_
            rintro e w1 ⟨rfl, hb1, hf1⟩
            have LY : Hid (Bld w.heap.size w.heap.size (Lib.byteCells (acc ++ [32])) w1) := by rw [Lib.byteCells_append]; exact hb1
            have BY := Lib.hid (BX.out.keptB hf1 (by omega) (by decide))
            have WY := Lib.hid (WX.out.trans hf1.below)
            obtain ⟨acc', hacc⟩ : ∃ acc', acc ++ [32] = acc' := ⟨_, rfl⟩
            rw [hacc] at LY
            have HA' : Hid (acc' ++ ((if kind = 1 then Lib.decDigits u else text.data.toList) ++ printGo (l.drop (k + 1)) false) = printP l) := by
              show _ = _
              rw [← hacc, ← HA.out]; simp
            clear hb1 hf1 hacc
            have y0 := BY.out.cell 0
            have y1 := BY.out.cell 1
            have y2 := BY.out.cell 2
            simp at y0 y1 y2
            have z1 := BY.out.lt
            by_cases h1 : kind = 1
            · subst h1
              rw [if_pos rfl] at HA'
              go_wp2_with fail
              refine (fuint_any u hu64 _ (HT.out.below WY.out)).mono ?_
              rintro e w2 ⟨rfl, hb2⟩
              have LZ := Lib.hid (LY.out.below hb2)
              have WZ := Lib.hid (WY.out.trans (hb2.mono WY.out.size))
              clear hb2
              go_wp2_with fail
              refine (wstring_any _ _ _ _ _ LZ.out (by rw [Lib.byteCells_length]; have e := congrArg List.length HA'.out; simp at e; show _ + (Lib.decDigits u).toArray.size ≤ _; simp; omega) WZ.out.size).mono ?_
              rintro e w3 ⟨rfl, hb3, hf3⟩
              have HA1 : Hid (acc' ++ Lib.decDigits u ++ printGo (l.drop (k + 1)) false = printP l) := by
                show _ = _
                rw [← HA'.out]; simp
              have HL1 : Hid (Bld w.heap.size w.heap.size (Lib.byteCells (acc' ++ Lib.decDigits u)) w3) := by rw [Lib.byteCells_append]; exact hb3
              have HB1 := Lib.hid (WZ.out.trans hf3.below)
              clear hb3 hf3
              go_wp2
              go_roundw
              case rel => exact ⟨k + 1, false, acc' ++ Lib.decDigits u, ⟨by omega, by go_num, rfl⟩, HA1, HL1.out, HB1.out⟩
              case measure => simp [intOf]; omega
            · rw [if_neg h1] at HA'
              have hb1 : (kind == 1) = false := by simpa using h1
              go_wp2_with fail
              refine (wstring_any _ _ _ text _ LY.out (by rw [Lib.byteCells_length]; have e := congrArg List.length HA'.out; simp at e; have : text.data.size = text.size := rfl; omega) WY.out.size).mono ?_
              rintro e w3 ⟨rfl, hb3, hf3⟩
              have HA1 : Hid (acc' ++ text.data.toList ++ printGo (l.drop (k + 1)) false = printP l) := by
                show _ = _
                rw [← HA'.out]; simp
              have HL1 : Hid (Bld w.heap.size w.heap.size (Lib.byteCells (acc' ++ text.data.toList)) w3) := by rw [Lib.byteCells_append]; exact hb3
              have HB1 := Lib.hid (WY.out.trans hf3.below)
              clear hb3 hf3
              go_wp2
              go_roundw
              case rel => exact ⟨k + 1, false, acc' ++ text.data.toList, ⟨by omega, by go_num, rfl⟩, HA1, HL1.out, HB1.out⟩
              case measure => simp [intOf]; omega
          · simp only [if_true] at HA
            have LY := Lib.hid LX.out
            have BY := Lib.hid BX.out
            have WY := Lib.hid WX.out
            obtain ⟨acc', hacc⟩ : ∃ acc', acc = acc' := ⟨_, rfl⟩
            rw [hacc] at LY
            have HA' : Hid (acc' ++ ((if kind = 1 then Lib.decDigits u else text.data.toList) ++ printGo (l.drop (k + 1)) false) = printP l) := by
              show _ = _
              rw [← hacc, ← HA.out]; simp
            clear hacc
            obtain ⟨w1, hw1⟩ : ∃ w1, wb = w1 := ⟨_, rfl⟩
            have HW1 := Lib.hid hw1
            rw [hw1] at LY BY WY
            clear hw1
            by_cases h1 : kind = 1
            · subst h1
              rw [if_pos rfl] at HA'
              go_wp2_with fail
              rw [HWB.out, HW1.out]
              refine (fuint_any u hu64 _ (HT.out.below WY.out)).mono ?_
              rintro e w2 ⟨rfl, hb2⟩
              have LZ := Lib.hid (LY.out.below hb2)
              have WZ := Lib.hid (WY.out.trans (hb2.mono WY.out.size))
              clear hb2
              go_wp2_with fail
              refine (wstring_any _ _ _ _ _ LZ.out (by rw [Lib.byteCells_length]; have e := congrArg List.length HA'.out; simp at e; show _ + (Lib.decDigits u).toArray.size ≤ _; simp; omega) WZ.out.size).mono ?_
              rintro e w3 ⟨rfl, hb3, hf3⟩
              have HA1 : Hid (acc' ++ Lib.decDigits u ++ printGo (l.drop (k + 1)) false = printP l) := by
                show _ = _
                rw [← HA'.out]; simp
              have HL1 : Hid (Bld w.heap.size w.heap.size (Lib.byteCells (acc' ++ Lib.decDigits u)) w3) := by rw [Lib.byteCells_append]; exact hb3
              have HB1 := Lib.hid (WZ.out.trans hf3.below)
              clear hb3 hf3
              go_wp2
              go_roundw
              case rel => exact ⟨k + 1, false, acc' ++ Lib.decDigits u, ⟨by omega, by go_num, rfl⟩, HA1, HL1.out, HB1.out⟩
              case measure => simp [intOf]; omega
            · rw [if_neg h1] at HA'
              have hb1 : (kind == 1) = false := by simpa using h1
              go_wp2_with fail
              rw [HWB.out, HW1.out]
              refine (wstring_any _ _ _ text _ LY.out (by rw [Lib.byteCells_length]; have e := congrArg List.length HA'.out; simp at e; have : text.data.size = text.size := rfl; omega) WY.out.size).mono ?_
              rintro e w3 ⟨rfl, hb3, hf3⟩
              have HA1 : Hid (acc' ++ text.data.toList ++ printGo (l.drop (k + 1)) false = printP l) := by
                show _ = _
                rw [← HA'.out]; simp
              have HL1 : Hid (Bld w.heap.size w.heap.size (Lib.byteCells (acc' ++ text.data.toList)) w3) := by rw [Lib.byteCells_append]; exact hb3
              have HB1 := Lib.hid (WY.out.trans hf3.below)
              clear hb3 hf3
              go_wp2
              go_roundw
              case rel => exact ⟨k + 1, false, acc' ++ text.data.toList, ⟨by omega, by go_num, rfl⟩, HA1, HL1.out, HB1.out⟩
              case measure => simp [intOf]; omega
    · obtain rfl : n = k := by omega
      have HA1 : Hid (acc = printP l) := by
        show _ = _
        rw [← HA.out, List.drop_of_length_le (by rw [HL.out]; exact Nat.le_refl _), printGo]; simp
      go_wp2_with fail
      refine (Tryd.Builder_String_any_k _ _ acc _ HBl.out hsz).mono ?_
      rintro e w1 ⟨rfl, _, hb1, _⟩
      have HB1 := Lib.hid (HB.out.trans hb1)
      clear hb1
      go_wp2
      go_ret
      exact ⟨by rw [← HA1.out]; rfl, HB1.out⟩
end Go.Proofs.YthdlihiehfkceaaDoor
