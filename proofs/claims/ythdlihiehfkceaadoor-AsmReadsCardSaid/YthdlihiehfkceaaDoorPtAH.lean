/-
  Texts of one proof, joined (wip/gen/pack.py): AsmK, AsmQ, AsmM, CtrD, CtrE, CtrF, GlyN.
-/
import Derived.Test.YthdlihiehfkceaaDoorPtAG
import Derived.Test.YthdlihiehfkceaaDoorPtAB
import Derived.Test.YthdlihiehfkceaaDoorPtAA
import Derived.Test.YthdlihiehfkceaaDoorPtAF
import Derived.Lib.ItoaLen
namespace Go.Proofs.YthdlihiehfkceaaDoor
open Go.RowKit Go.Maps Go.WideMaps
set_option linter.unusedVariables false

theorem targGo_len {n : Nat} : ∀ {l : List Ins} {k : Nat} {c0 c : Int → Nat}, targGo n l k c0 = some c → ∀ i ∈ l, plainB i.op i.a i.b i.c i.imm = true ∧ (goesP i.op = true → i.imm ≤ (n : Int))
  | [], _, _, _, _, _, hi => by cases hi
  | x :: l, k, c0, c, h, i, hi => by
    rw [targGo] at h
    split at h
    · cases h
    · rename_i hp
      have hp' : plainB x.op x.a x.b x.c x.imm = true := by simpa using hp
      split at h
      · rename_i hg
        rcases List.mem_cons.1 hi with rfl | hi
        · exact ⟨hp', fun e => by rw [hg] at e; cases e⟩
        · exact targGo_len h i hi
      · split at h
        · cases h
        · rename_i hb
          rcases List.mem_cons.1 hi with rfl | hi
          · exact ⟨hp', fun _ => by omega⟩
          · exact targGo_len h i hi
theorem plain_facts {op a b c imm : Int} (h : plainB op a b c imm = true) : (0 ≤ op ∧ op < 22) ∧ (0 ≤ a ∧ a < 16) ∧ (0 ≤ b ∧ b < 16) ∧ (0 ≤ c ∧ c < 16) := by
  have hf : ∀ (x : Int) (b : Bool), fieldB x b = true → 0 ≤ x ∧ x < 16 := by
    intro x b h
    unfold fieldB at h
    cases b <;> simp at h <;> omega
  unfold plainB at h
  simp only [Bool.and_eq_true, decide_eq_true_eq] at h
  obtain ⟨⟨⟨⟨h0, h1⟩, h2⟩, h3⟩, _⟩ := h
  exact ⟨⟨h0.1, by omega⟩, hf _ _ h1, hf _ _ h2, hf _ _ h3⟩
theorem form_l {op : Int} (h : 108 ∈ formP op) : goesP op = true := by
  have hi : ∀ (p : Prop) [Decidable p] (a b : List Nat) (Q : Prop), (p → 108 ∈ a → Q) → (108 ∈ b → Q) → 108 ∈ (if p then a else b) → Q := fun p _ a b Q ha hb h => by
    split at h
    · exact ha (by assumption) h
    · exact hb h
  unfold formP at h
  revert h
  repeat' first
    | refine hi _ _ _ _ (fun h1 h2 => by first | (exfalso; revert h2; decide) | (subst h1; rfl)) ?_
    | (intro h; exfalso; revert h; decide)
theorem textGo_head (cnt : Int → Nat) (l : List Ins) (k : Nat) : (headP cnt k).length ≤ (textGo cnt l k).length := by
  cases l with
  | nil => exact Nat.le_refl _
  | cons i r => rw [textGo]; simp only [List.length_append]; omega
set_option maxRecDepth 100000 in
set_option maxHeartbeats 8000000 in
theorem text_any (code : List Ins) (A : Option Addr) (n c : Nat) (w : World) (hr : RdI w w.heap.size A n code) (hn : n ≤ 100000) (hok : ∀ i ∈ code, i.Ok) (htab : PowTab w) :
    Calls Tryd.prog 11 #[.slice A n c] w fun e w' => e = .returned (.string (textP code)) ∧ Below w.heap.size w w' := by
  have hlen := hr.insLen
  have hta := targets_any code A n c w hr hn hok
  have HR := Lib.hid hr
  have HTab := Lib.hid htab
  clear hr htab
  cases htp : targP code with
  | none =>
    have HE : Hid (textP code = ⟨#[]⟩) := by show _ = _; unfold textP; rw [htp]
    have HP := Lib.hid htp
    clear htp
    go_enter Tryd.func11, Tryd.ntmps11
    go_wp2_with (
      go_at_call 21
      refine hta.mono ?_
      rintro e w1 ⟨hb, ⟨_, rfl⟩ | ⟨cnt, D, m, h, _⟩⟩
      rotate_left
      · rw [HP.out] at h; cases h
      have HB := Lib.hid hb
      clear hb)
    go_ret
    exact ⟨by rw [HE.out]; rfl, HB.out⟩
  | some cnt =>
    by_cases hbig : 256 < n
    · have HE : Hid (textP code = ⟨#[]⟩) := by show _ = _; unfold textP; rw [htp]; simp only; rw [if_pos (by omega)]
      have HP := Lib.hid htp
      have hbi : (256 : Int) < (n : Int) := by omega
      clear htp hbig
      go_enter Tryd.func11, Tryd.ntmps11
      go_wp2_with (
        go_at_call 21
        refine hta.mono ?_
        rintro e w1 ⟨hb, ⟨h, _⟩ | ⟨cnt', D, m, _, rfl, _⟩⟩
        · rw [HP.out] at h; cases h
        have HB := Lib.hid hb
        clear hb)
      go_ret
      exact ⟨by rw [HE.out]; rfl, HB.out⟩
    · obtain ⟨T, hT⟩ : ∃ T, textGo cnt code 0 = T := ⟨_, rfl⟩
      have HE : Hid (textP code = ⟨T.toArray⟩) := by show _ = _; unfold textP; rw [htp]; simp only; rw [if_neg (by omega), hT]
      have hTl := textGo_le cnt code 0 (by omega) (fun i hi => (hok i hi).imm)
      rw [hT, hlen] at hTl
      have HTl : Hid (T.length ≤ 60000) := by show _ ≤ _; omega
      have HPl := Lib.hid (targGo_len htp)
      have HP := Lib.hid htp
      have HT := Lib.hid hT
      have HOk := Lib.hid hok
      have hbi : ¬ (256 : Int) < (n : Int) := by omega
      have HLen := Lib.hid hlen
      clear htp hT hTl hok hlen
      go_enter Tryd.func11, Tryd.ntmps11
      go_upto_region 4 with (
        go_at_call 21
        refine hta.mono ?_
        rintro e w1 ⟨hb, ⟨h, _⟩ | ⟨cnt', D, m, h, rfl, hown, hcn⟩⟩
        · rw [HP.out] at h; cases h
        obtain rfl : cnt = cnt' := by rw [HP.out] at h; injection h
        have HB := Lib.hid hb
        have HOwn := Lib.hid hown
        have HCn := Lib.hid hcn
        clear hb hown hcn h)
      have hBs := HB.out.size
      have hlm : w.heap.size < w1.heap.size := HOwn.out.lt
      have hlm' : w1.heap.size ≤ w1.heap.size := Nat.le_refl _
      have HR1 := Lib.hid (HR.out.below HB.out)
      have HTab1 := Lib.hid (HTab.out.below HB.out)
      clear hta HR HTab
      go_wp2
      go_loopw [25] (fun i wr => ∃ (k : Nat) (acc : List UInt8), (k ≤ n ∧ i = .int .i64 k) ∧ Hid (acc ++ textGo cnt (code.drop k) k = T) ∧ Hid (Bld w1.heap.size w1.heap.size (Lib.byteCells acc) wr) ∧ Hid (Below w1.heap.size w1 wr)) (fun i _ => n + 1 - (intOf i).toNat)
      case atStart =>
        exact ⟨0, [], ⟨by omega, rfl⟩, HT.out, Lib.IsBuilderF.of (Lib.fresh_isBuilder _ _ w1), (Below.refl _ _).alloc (Nat.le_refl _) _⟩
      case round =>
        obtain ⟨k, acc, ⟨hk, rfl⟩, HA, HBl, HB1⟩ := hrel
        have hsz1 := HB1.out.size
        have hKi := Tryd.underlying3
        have hkey : keyOf Tryd.prog 3 (.int .i64 k) = some (ck k) := keyOf_int_mk hKi (by simp [Lit.wf, IntKind.min, IntKind.max, IntKind.signed, IntKind.bits]; omega)
        have HMr := Lib.hid (HOwn.out.kept (grown_of_below HB1.out) (by simp))
        obtain ⟨y, hy⟩ : ∃ y, cnt (k : Int) = y := ⟨_, rfl⟩
        have hat0 : D.atKey (ck k) (.lit (.int .i64 0)) = .lit (.int .i64 y) := by rw [HCn.out.val, hy]
        have HA0 := Lib.hid hat0
        have HY := Lib.hid hy
        clear hat0 hy
        have hklt : (k : Int) < (n : Int) + 1 := by omega
        have HAl : Hid (acc.length + (headP cnt k).length ≤ 60000) := by
          show _ ≤ _
          have e := congrArg List.length HA.out
          have h1 := textGo_head cnt (code.drop k) k
          have h2 := HTl.out
          rw [List.length_append] at e
          omega
        by_cases hy0 : 0 < y
        · have hyi : (0 : Int) < (y : Int) := by omega
          have hhd : Hid (headP cnt k = (labelP k).data.toList ++ [32, 58, 10]) := by show _ = _; unfold headP; rw [HY.out, if_pos hy0]
          obtain ⟨LB, hLB⟩ : ∃ LB, labelP k = LB := ⟨_, rfl⟩
          have hLs : LB.size ≤ 21 := by rw [← hLB]; exact labelP_le k (by omega)
          rw [hLB] at hhd
          have HLB := Lib.hid hLB
          clear hLB hy0
          have HTr := Lib.hid (HTab1.out.below HB1.out)
          go_upto_region 10 with (first
              | (at_lookup
                 refine wpList_lookup_own_int _ rfl (.tmp 28) (.tmp 29) 46 rfl 3 3 .i64 (int_keyed hKi) Tryd.underlying46 hKi (by kernel_rfl) w.heap.size m D rfl HMr.out _ _ rfl hkey ?_
                 intro cc hat hwc
                 obtain rfl : cc = (y : Int) := by
                   have h := hat.symm.trans HA0.out
                   simpa using h
                 clear hat hwc)
              | (go_at_call 23
                 refine (label_any k (by omega) _ HTr.out).mono ?_
                 rintro e w2 ⟨rfl, hb2⟩
                 rw [HLB.out]
                 have HBl2 := Lib.hid (HBl.out.below hb2)
                 have HB2 := Lib.hid (HB1.out.trans (hb2.mono hsz1))
                 clear hb2)
              | (go_at_call 22
                 refine (wstring_any _ _ _ _ _ HBl2.out (by rw [Lib.byteCells_length]; have e := HAl.out; rw [hhd.out] at e; have e2 : LB.data.toList.length = LB.size := rfl; simp only [List.length_append, List.length_cons, List.length_nil, e2] at e; rw [ByteArray.size_append]; show _ + (LB.size + 3) ≤ _; omega) HB2.out.size).mono ?_
                 rintro e w3 ⟨rfl, hb3, hf3⟩
                 have HBl3 : Hid (Bld w1.heap.size w1.heap.size (Lib.byteCells (acc ++ headP cnt k)) w3) := by rw [Lib.byteCells_append, hhd.out]; exact hb3
                 have HB3 := Lib.hid (HB2.out.trans hf3.below)
                 clear hb3 hf3))
          have hsz3 := HB3.out.size
          by_cases hkn : k = n
          · subst hkn
            have HE2 : Hid (acc ++ headP cnt k = T) := by
              show _ = _
              have h := HA.out
              rw [List.drop_of_length_le (by rw [HLen.out]; exact Nat.le_refl _), textGo] at h
              exact h
            go_wp2_with (
              go_at_call 27
              refine (Tryd.Builder_String_any_k _ _ _ _ HBl3.out hsz3).mono ?_
              rintro e w4 ⟨rfl, _, hb4, _⟩
              have HB4 := Lib.hid (HB3.out.trans hb4)
              clear hb4)
            go_ret
            refine ⟨by rw [HE.out, HE2.out]; rfl, HB.out.trans (HB4.out.mono hBs)⟩
          · have hlt : k < n := by omega
            have hkb : ((k : Int) == (n : Int)) = false := beq_eq_false_iff_ne.2 (by omega)
            obtain ⟨bi, oi, ⟨oo, oa, ob, oc, om⟩, rfl, hbB, hik, c0, c1, c2, c3, c4⟩ := (HR1.out.below (HB3.out.mono hBs)).insAt hlt
            have hi := HOk.out _ (List.mem_of_getElem? hik)
            have HImm := Lib.hid hi.imm
            obtain ⟨hpl, hgo⟩ := HPl.out _ (List.mem_of_getElem? hik)
            simp only at hpl hgo
            obtain ⟨hop, h16a, h16b, h16c⟩ := plain_facts hpl
            have HGo := Lib.hid hgo
            have H16 := Lib.hid (And.intro h16a (And.intro h16b h16c))
            obtain ⟨op, rfl⟩ : ∃ op : Nat, oo = (op : Int) := ⟨oo.toNat, by omega⟩
            have hop22 : op < 22 := by omega
            have hdr : code.drop k = ⟨op, oa, ob, oc, om⟩ :: code.drop (k + 1) := by
              have hkl : k < code.length := by rw [HLen.out]; exact hlt
              rw [List.drop_eq_getElem_cons hkl]; rw [List.getElem?_eq_getElem hkl] at hik; injection hik with hik; rw [hik]
            have HA2 : Hid ((acc ++ headP cnt k) ++ (printP (lineToks ⟨op, oa, ob, oc, om⟩) ++ [10]) ++ textGo cnt (code.drop (k + 1)) (k + 1) = T) := by
              show _ = _
              rw [← HA.out, hdr, textGo]
              simp only [List.append_assoc]
            have HI3 : Hid (RdI w3 w.heap.size (some ⟨bi, oi, none⟩) n code) := HR1.out.below (HB3.out.mono hBs)
            obtain ⟨hf7, hfs, hf0⟩ := form_len ⟨op, hop22⟩
            simp only at hf7 hfs hf0
            have HF := Lib.hid hfs
            have HF0 := Lib.hid hf0
            have HIk := Lib.hid hik
            have HC := Lib.hid (And.intro c0 (And.intro c1 (And.intro c2 (And.intro c3 c4))))
            clear hi hpl hgo hop h16a h16b h16c hdr hfs hf0 hik
            go_wp2_with (go_at_call 24; refine (aform_any _ _).mono ?_; rintro e w9 ⟨rfl, he9⟩; obtain rfl : w3 = w9 := he9.symm)
            go_loopw [7] (fun lv wq => ∃ (j : Nat), j ≤ (formP op).length ∧ wq.heap[w3.heap.size]? = some (.stringIter (formText op) (posF op j)) ∧ Hid (wq.ownsRow (w3.heap.size + 1) 58 5 lv j (tokCells ((lineToks ⟨op, oa, ob, oc, om⟩).take j))) ∧ Hid (Below w3.heap.size w3 wq)) (fun _ wq => (formText op).size - wq.iterPos w3.heap.size)
            case atStart => exact ⟨0, Nat.zero_le _, by rw [HF0.out]; exact World.iter_heap w3 (formText op) 0, World.ownsRow_nil _ _ _ _, (Below.refl _ _).alloc (Nat.le_refl _) _⟩
            case round =>
              obtain ⟨j, hj, hit, HRow, HBq⟩ := hrel
              obtain ⟨Al, cl, rfl, _, hrd⟩ := Rd.of_own_cap HRow.out
              have HRd := Lib.hid hrd
              have HIt := Lib.hid hit
              have hszq := HBq.out.size
              clear hit hrd c0 c1 c2 c3 c4
              by_cases hjl : j < (formP op).length
              · obtain ⟨h1, h2, h3, h4⟩ := form_dec ⟨op, hop22⟩ ⟨j, by omega⟩ hjl
                simp only at h1 h2 h3 h4
                have hnx : ∀ ty, (Instr.next (.pointer (some ⟨w3.heap.size, 0, none⟩)) true ty).run Tryd.prog wr = _ := fun ty => Lib.run_next_any_at wr w3.heap.size (formText op) (posF op j) ty HIt.out h1
                rw [h2] at hnx
                simp only at hnx
                rw [show posF op j + (posF op (j + 1) - posF op j) = posF op (j + 1) by omega] at hnx
                have H34 : Hid (posF op j < posF op (j + 1) ∧ posF op (j + 1) ≤ (formText op).size) := ⟨h3, h4⟩
                have hit2 := Lib.hid (Lib.iterAt_heap wr w3.heap.size (formText op) (posF op j) (posF op (j + 1)) HIt.out)
                have hb2 := Lib.hid (Lib.below_iterAt HBq.out (k := w3.heap.size) (Nat.le_refl _) (formText op) (posF op (j + 1)))
                have HRow2 := Lib.hid (HRow.out.kept (grownBy_putObj' wr w3.heap.size (.stringIter (formText op) (posF op (j + 1)))) (by
                  cases hv : (Value.slice Al j cl).ownBlock with
                  | none => exact .inl rfl
                  | some b => exact .inr (by have := (HRow.out.lt b hv).1; simp; omega)))
                have hmem : (formP op)[j]? = some ((formP op).getD j 0) := by rw [List.getD_eq_getElem?_getD, List.getElem?_eq_getElem hjl]; rfl
                obtain ⟨q, hq⟩ : ∃ q, (formP op).getD j 0 = q := ⟨_, rfl⟩
                rw [hq] at hnx hmem
                have Hl : Hid (q = 108 → 0 ≤ om ∧ om ≤ 256) := fun e => ⟨HImm.out.1, by
                  subst e
                  have := HGo.out (form_l (List.mem_of_getElem? hmem))
                  rw [HLen.out] at this; omega⟩
                have HTk : Hid ((lineToks ⟨op, oa, ob, oc, om⟩).take (j + 1) = (lineToks ⟨op, oa, ob, oc, om⟩).take j ++ [tokP q ⟨op, oa, ob, oc, om⟩]) := by
                  show _ = _
                  rw [List.take_add_one]
                  simp only [lineToks, List.getElem?_map, hmem, Option.map_some, Option.toList_some]
                obtain ⟨t, ht⟩ : ∃ t, tokP q ⟨op, oa, ob, oc, om⟩ = t := ⟨_, rfl⟩
                rw [ht] at HTk
                have HTok := Lib.hid ht
                obtain ⟨kd, tx, nu, ta, tl⟩ := t
                clear h1 h2 h3 h4 hq hmem ht
                obtain ⟨V, hV⟩ : ∃ V, wr.iterAt w3.heap.size (formText op) (posF op (j + 1)) = V := ⟨_, rfl⟩
                have HRow3 : Hid (V.ownsRow (w3.heap.size + 1) 58 5 (.slice Al j cl) j (tokCells ((lineToks ⟨op, oa, ob, oc, om⟩).take j))) := by rw [← hV]; exact HRow2.out
                rw [hV] at hnx hit2 hb2
                clear hV HRow2
                have hszV := hb2.out.size
                have c0 : V.cell? ⟨bi, oi + k * 5, none⟩ = _ := (hb2.out.cell (p := ⟨bi, oi + k * 5, none⟩) (by show bi < _; omega)).trans HC.out.1
                have c1 : V.cell? ⟨bi, oi + k * 5 + 1, none⟩ = _ := (hb2.out.cell (p := ⟨bi, oi + k * 5 + 1, none⟩) (by show bi < _; omega)).trans HC.out.2.1
                have c2 : V.cell? ⟨bi, oi + k * 5 + 2, none⟩ = _ := (hb2.out.cell (p := ⟨bi, oi + k * 5 + 2, none⟩) (by show bi < _; omega)).trans HC.out.2.2.1
                have c3 : V.cell? ⟨bi, oi + k * 5 + 3, none⟩ = _ := (hb2.out.cell (p := ⟨bi, oi + k * 5 + 3, none⟩) (by show bi < _; omega)).trans HC.out.2.2.2.1
                have c4 : V.cell? ⟨bi, oi + k * 5 + 4, none⟩ = _ := (hb2.out.cell (p := ⟨bi, oi + k * 5 + 4, none⟩) (by show bi < _; omega)).trans HC.out.2.2.2.2
                have HTV := Lib.hid (HTab1.out.below ((HB3.out.trans (hb2.out.mono hsz3)).mono hlm'))
                obtain ⟨i0, hi0, hz0, hz1, hz2⟩ := info_parts info_tok
                go_wp2_with (first
                  | (go_at_call 25; go_loud (
                     refine (token_any ⟨op, oa, ob, oc, om⟩ q V HTV.out H16.out.1 H16.out.2.1 H16.out.2.2 Hl.out).mono ?_
                     rintro e w4 ⟨rfl, hb4⟩
                     rw [HTok.out]
                     simp only [Tok.val]
                     have HRa := Lib.hid ((HRow3.out.kept (grown_of_below hb4) (own_not _)).alloc (.cells #[.int .i64 kd, .string tx, .int .u64 nu, .int .i64 ta, .int .i64 tl] 58))
                     have HB4 := Lib.hid ((hb2.out.trans (hb4.mono hszV)).alloc (Nat.le_trans hszV hb4.size) (.cells #[.int .i64 kd, .string tx, .int .u64 nu, .int .i64 ta, .int .i64 tl] 58))
                     have HI4 : Hid ((w4.alloc (.cells #[.int .i64 kd, .string tx, .int .u64 nu, .int .i64 ta, .int .i64 tl] 58)).heap[w3.heap.size]? = some (.stringIter (formText op) (posF op (j + 1)))) := ((hb4.alloc hb4.size _).block _ (Array.getElem?_eq_some_iff.1 hit2.out).1).trans hit2.out
                     have Ra : Hid (Rd (w4.alloc (.cells #[.int .i64 kd, .string tx, .int .u64 nu, .int .i64 ta, .int .i64 tl] 58)) (w4.heap.size + 1) 5 (some ⟨w4.heap.size, 0, none⟩) 1 (tokCells [⟨kd, tx, nu, ta, tl⟩])) := Rd.new w4 _ _ (size := 5) (m := 1) rfl (by simp [maxLen])
                     have hz4 : w3.heap.size + 1 ≤ (w4.alloc (.cells #[.int .i64 kd, .string tx, .int .u64 nu, .int .i64 ta, .int .i64 tl] 58)).heap.size := by have := hb4.size; simp; omega
                     clear hb4))
                  | (at_builtin
                     go_must (
                       refine wpList_app _ rfl (.tmp 50) (.tmp 57) 56 rfl (w3.heap.size + 1) 58 i0 _ 5 48 Tryd.underlying56 hi0 hz0 hz1 hz2 rfl (by omega) _ j _ rfl HRa.out _ _ 1 _ _ rfl Ra.out (tokCells_one _) ?_ ?_ ?_ ?_
                       · simp only [maxLen]; omega
                       · omega
                       · exact hz4
                       intro v5 w5 hown5 hg5 _
                       rw [← tokCells_append, ← HTk.out] at hown5
                       have HO5 := Lib.hid hown5
                       have HB5 := Lib.hid (below_own HB4.out HRa.out hg5 (by omega) (by omega))
                       have HI5 : Hid (w5.heap[w3.heap.size]? = some (.stringIter (formText op) (posF op (j + 1)))) := (hg5.block _ (by have := hz4; omega) (fun e => by have := (HRa.out.lt _ e.symm).1; omega)).trans HI4.out
                       clear hown5 hg5)))
                go_roundw
                case rel =>
                  exact ⟨j + 1, by omega, HI5.out, HO5.out, HB5.out⟩
                case measure =>
                  have := H34.out
                  simp only [World.iterPos, HI5.out, HIt.out]
                  omega
              · obtain rfl : j = (formP op).length := by omega
                have hnx : ∀ ty, (Instr.next (.pointer (some ⟨w3.heap.size, 0, none⟩)) true ty).run Tryd.prog wr = _ := fun ty => Lib.run_next_end_at wr w3.heap.size (formText op) (posF op (formP op).length) ty HIt.out (by rw [HF.out]; omega)
                have htk : (lineToks ⟨op, oa, ob, oc, om⟩).take (formP op).length = lineToks ⟨op, oa, ob, oc, om⟩ := List.take_of_length_le (by rw [lineToks, List.length_map]; exact Nat.le_refl _)
                have HRl : Hid (RdT wr wr.heap.size Al (formP op).length (lineToks ⟨op, oa, ob, oc, om⟩)) := by have h := HRd.out; rw [htk] at h; exact h
                obtain ⟨PL, hPL⟩ : ∃ PL, printP (lineToks ⟨op, oa, ob, oc, om⟩) = PL := ⟨_, rfl⟩
                have hPl : PL.length ≤ 175 := by rw [← hPL]; exact print_line_le _ HImm.out
                have hpa := print_any (lineToks ⟨op, oa, ob, oc, om⟩) Al (formP op).length cl wr HRl.out (fun t ht => by obtain ⟨c, rfl⟩ := lineToks_mem ht; exact tok_num c _ HImm.out) (by rw [hPL]; omega) (HTab1.out.below ((HB3.out.trans (HBq.out.mono hsz3)).mono hlm'))
                unfold PrintPost at hpa
                rw [hPL] at hpa HA2
                have HPa := Lib.hid hpa
                have HBlq := Lib.hid (HBl3.out.below HBq.out)
                have HBq1 := Lib.hid (HB3.out.trans (HBq.out.mono hsz3))
                clear hpa hPL htk
                go_wp2_with (first
                  | (go_at_call 26
                     refine HPa.out.mono ?_
                     rintro e w4 ⟨rfl, hb4⟩
                     have HBl4 := Lib.hid (HBlq.out.below hb4)
                     have HB4 := Lib.hid (HBq1.out.trans (hb4.mono (Nat.le_trans hsz3 hszq)))
                     clear hb4)
                  | (go_at_call 22
                     refine (wstring_any _ _ _ _ _ HBl4.out (by rw [Lib.byteCells_length, List.length_append]; have e := HAl.out; rw [ByteArray.size_append]; show _ + (PL.toArray.size + 1) ≤ _; simp; omega) HB4.out.size).mono ?_
                     rintro e w5 ⟨rfl, hb5, hf5⟩
                     have HBl5 : Hid (Bld w1.heap.size w1.heap.size (Lib.byteCells ((acc ++ headP cnt k) ++ (PL ++ [10]))) w5) := by rw [Lib.byteCells_append _ (PL ++ [10])]; exact hb5
                     have HB5 := Lib.hid (HB4.out.trans hf5.below)
                     clear hb5 hf5))
                go_roundw
                case rel => exact ⟨k + 1, (acc ++ headP cnt k) ++ (PL ++ [10]), ⟨by omega, by go_num⟩, HA2, HBl5.out, HB5.out⟩
                case measure => simp [intOf]; omega
        · have hyi : ¬ (0 : Int) < (y : Int) := by omega
          have hhd : Hid (headP cnt k = []) := by show _ = _; unfold headP; rw [HY.out, if_neg hy0]
          clear hy0
          go_upto_region 10 with (first
              | (at_lookup
                 refine wpList_lookup_own_int _ rfl (.tmp 28) (.tmp 29) 46 rfl 3 3 .i64 (int_keyed hKi) Tryd.underlying46 hKi (by kernel_rfl) w.heap.size m D rfl HMr.out _ _ rfl hkey ?_
                 intro cc hat hwc
                 obtain rfl : cc = (y : Int) := by
                   have h := hat.symm.trans HA0.out
                   simpa using h
                 clear hat hwc))
          obtain ⟨w3, hw3⟩ : ∃ w3, wr = w3 := ⟨_, rfl⟩
          have HBl3 : Hid (Bld w1.heap.size w1.heap.size (Lib.byteCells (acc ++ headP cnt k)) w3) := by show Bld _ _ _ _; rw [hhd.out, List.append_nil, ← hw3]; exact HBl.out
          have HB3 : Hid (Below w1.heap.size w1 w3) := by show Below _ _ _; rw [← hw3]; exact HB1.out
          rw [hw3]
          clear hw3
          have hsz3 := HB3.out.size
          by_cases hkn : k = n
          · subst hkn
            have HE2 : Hid (acc ++ headP cnt k = T) := by
              show _ = _
              have h := HA.out
              rw [List.drop_of_length_le (by rw [HLen.out]; exact Nat.le_refl _), textGo] at h
              exact h
            go_wp2_with (
              go_at_call 27
              refine (Tryd.Builder_String_any_k _ _ _ _ HBl3.out hsz3).mono ?_
              rintro e w4 ⟨rfl, _, hb4, _⟩
              have HB4 := Lib.hid (HB3.out.trans hb4)
              clear hb4)
            go_ret
            refine ⟨by rw [HE.out, HE2.out]; rfl, HB.out.trans (HB4.out.mono hBs)⟩
          · have hlt : k < n := by omega
            have hkb : ((k : Int) == (n : Int)) = false := beq_eq_false_iff_ne.2 (by omega)
            obtain ⟨bi, oi, ⟨oo, oa, ob, oc, om⟩, rfl, hbB, hik, c0, c1, c2, c3, c4⟩ := (HR1.out.below (HB3.out.mono hBs)).insAt hlt
            have hi := HOk.out _ (List.mem_of_getElem? hik)
            have HImm := Lib.hid hi.imm
            obtain ⟨hpl, hgo⟩ := HPl.out _ (List.mem_of_getElem? hik)
            simp only at hpl hgo
            obtain ⟨hop, h16a, h16b, h16c⟩ := plain_facts hpl
            have HGo := Lib.hid hgo
            have H16 := Lib.hid (And.intro h16a (And.intro h16b h16c))
            obtain ⟨op, rfl⟩ : ∃ op : Nat, oo = (op : Int) := ⟨oo.toNat, by omega⟩
            have hop22 : op < 22 := by omega
            have hdr : code.drop k = ⟨op, oa, ob, oc, om⟩ :: code.drop (k + 1) := by
              have hkl : k < code.length := by rw [HLen.out]; exact hlt
              rw [List.drop_eq_getElem_cons hkl]; rw [List.getElem?_eq_getElem hkl] at hik; injection hik with hik; rw [hik]
            have HA2 : Hid ((acc ++ headP cnt k) ++ (printP (lineToks ⟨op, oa, ob, oc, om⟩) ++ [10]) ++ textGo cnt (code.drop (k + 1)) (k + 1) = T) := by
              show _ = _
              rw [← HA.out, hdr, textGo]
              simp only [List.append_assoc]
            have HI3 : Hid (RdI w3 w.heap.size (some ⟨bi, oi, none⟩) n code) := HR1.out.below (HB3.out.mono hBs)
            obtain ⟨hf7, hfs, hf0⟩ := form_len ⟨op, hop22⟩
            simp only at hf7 hfs hf0
            have HF := Lib.hid hfs
            have HF0 := Lib.hid hf0
            have HIk := Lib.hid hik
            have HC := Lib.hid (And.intro c0 (And.intro c1 (And.intro c2 (And.intro c3 c4))))
            clear hi hpl hgo hop h16a h16b h16c hdr hfs hf0 hik
            go_wp2_with (go_at_call 24; refine (aform_any _ _).mono ?_; rintro e w9 ⟨rfl, he9⟩; obtain rfl : w3 = w9 := he9.symm)
            go_loopw [7] (fun lv wq => ∃ (j : Nat), j ≤ (formP op).length ∧ wq.heap[w3.heap.size]? = some (.stringIter (formText op) (posF op j)) ∧ Hid (wq.ownsRow (w3.heap.size + 1) 58 5 lv j (tokCells ((lineToks ⟨op, oa, ob, oc, om⟩).take j))) ∧ Hid (Below w3.heap.size w3 wq)) (fun _ wq => (formText op).size - wq.iterPos w3.heap.size)
            case atStart => exact ⟨0, Nat.zero_le _, by rw [HF0.out]; exact World.iter_heap w3 (formText op) 0, World.ownsRow_nil _ _ _ _, (Below.refl _ _).alloc (Nat.le_refl _) _⟩
            case round =>
              obtain ⟨j, hj, hit, HRow, HBq⟩ := hrel
              obtain ⟨Al, cl, rfl, _, hrd⟩ := Rd.of_own_cap HRow.out
              have HRd := Lib.hid hrd
              have HIt := Lib.hid hit
              have hszq := HBq.out.size
              clear hit hrd c0 c1 c2 c3 c4
              by_cases hjl : j < (formP op).length
              · obtain ⟨h1, h2, h3, h4⟩ := form_dec ⟨op, hop22⟩ ⟨j, by omega⟩ hjl
                simp only at h1 h2 h3 h4
                have hnx : ∀ ty, (Instr.next (.pointer (some ⟨w3.heap.size, 0, none⟩)) true ty).run Tryd.prog wr = _ := fun ty => Lib.run_next_any_at wr w3.heap.size (formText op) (posF op j) ty HIt.out h1
                rw [h2] at hnx
                simp only at hnx
                rw [show posF op j + (posF op (j + 1) - posF op j) = posF op (j + 1) by omega] at hnx
                have H34 : Hid (posF op j < posF op (j + 1) ∧ posF op (j + 1) ≤ (formText op).size) := ⟨h3, h4⟩
                have hit2 := Lib.hid (Lib.iterAt_heap wr w3.heap.size (formText op) (posF op j) (posF op (j + 1)) HIt.out)
                have hb2 := Lib.hid (Lib.below_iterAt HBq.out (k := w3.heap.size) (Nat.le_refl _) (formText op) (posF op (j + 1)))
                have HRow2 := Lib.hid (HRow.out.kept (grownBy_putObj' wr w3.heap.size (.stringIter (formText op) (posF op (j + 1)))) (by
                  cases hv : (Value.slice Al j cl).ownBlock with
                  | none => exact .inl rfl
                  | some b => exact .inr (by have := (HRow.out.lt b hv).1; simp; omega)))
                have hmem : (formP op)[j]? = some ((formP op).getD j 0) := by rw [List.getD_eq_getElem?_getD, List.getElem?_eq_getElem hjl]; rfl
                obtain ⟨q, hq⟩ : ∃ q, (formP op).getD j 0 = q := ⟨_, rfl⟩
                rw [hq] at hnx hmem
                have Hl : Hid (q = 108 → 0 ≤ om ∧ om ≤ 256) := fun e => ⟨HImm.out.1, by
                  subst e
                  have := HGo.out (form_l (List.mem_of_getElem? hmem))
                  rw [HLen.out] at this; omega⟩
                have HTk : Hid ((lineToks ⟨op, oa, ob, oc, om⟩).take (j + 1) = (lineToks ⟨op, oa, ob, oc, om⟩).take j ++ [tokP q ⟨op, oa, ob, oc, om⟩]) := by
                  show _ = _
                  rw [List.take_add_one]
                  simp only [lineToks, List.getElem?_map, hmem, Option.map_some, Option.toList_some]
                obtain ⟨t, ht⟩ : ∃ t, tokP q ⟨op, oa, ob, oc, om⟩ = t := ⟨_, rfl⟩
                rw [ht] at HTk
                have HTok := Lib.hid ht
                obtain ⟨kd, tx, nu, ta, tl⟩ := t
                clear h1 h2 h3 h4 hq hmem ht
                obtain ⟨V, hV⟩ : ∃ V, wr.iterAt w3.heap.size (formText op) (posF op (j + 1)) = V := ⟨_, rfl⟩
                have HRow3 : Hid (V.ownsRow (w3.heap.size + 1) 58 5 (.slice Al j cl) j (tokCells ((lineToks ⟨op, oa, ob, oc, om⟩).take j))) := by rw [← hV]; exact HRow2.out
                rw [hV] at hnx hit2 hb2
                clear hV HRow2
                have hszV := hb2.out.size
                have c0 : V.cell? ⟨bi, oi + k * 5, none⟩ = _ := (hb2.out.cell (p := ⟨bi, oi + k * 5, none⟩) (by show bi < _; omega)).trans HC.out.1
                have c1 : V.cell? ⟨bi, oi + k * 5 + 1, none⟩ = _ := (hb2.out.cell (p := ⟨bi, oi + k * 5 + 1, none⟩) (by show bi < _; omega)).trans HC.out.2.1
                have c2 : V.cell? ⟨bi, oi + k * 5 + 2, none⟩ = _ := (hb2.out.cell (p := ⟨bi, oi + k * 5 + 2, none⟩) (by show bi < _; omega)).trans HC.out.2.2.1
                have c3 : V.cell? ⟨bi, oi + k * 5 + 3, none⟩ = _ := (hb2.out.cell (p := ⟨bi, oi + k * 5 + 3, none⟩) (by show bi < _; omega)).trans HC.out.2.2.2.1
                have c4 : V.cell? ⟨bi, oi + k * 5 + 4, none⟩ = _ := (hb2.out.cell (p := ⟨bi, oi + k * 5 + 4, none⟩) (by show bi < _; omega)).trans HC.out.2.2.2.2
                have HTV := Lib.hid (HTab1.out.below ((HB3.out.trans (hb2.out.mono hsz3)).mono hlm'))
                obtain ⟨i0, hi0, hz0, hz1, hz2⟩ := info_parts info_tok
                go_wp2_with (first
                  | (go_at_call 25; go_loud (
                     refine (token_any ⟨op, oa, ob, oc, om⟩ q V HTV.out H16.out.1 H16.out.2.1 H16.out.2.2 Hl.out).mono ?_
                     rintro e w4 ⟨rfl, hb4⟩
                     rw [HTok.out]
                     simp only [Tok.val]
                     have HRa := Lib.hid ((HRow3.out.kept (grown_of_below hb4) (own_not _)).alloc (.cells #[.int .i64 kd, .string tx, .int .u64 nu, .int .i64 ta, .int .i64 tl] 58))
                     have HB4 := Lib.hid ((hb2.out.trans (hb4.mono hszV)).alloc (Nat.le_trans hszV hb4.size) (.cells #[.int .i64 kd, .string tx, .int .u64 nu, .int .i64 ta, .int .i64 tl] 58))
                     have HI4 : Hid ((w4.alloc (.cells #[.int .i64 kd, .string tx, .int .u64 nu, .int .i64 ta, .int .i64 tl] 58)).heap[w3.heap.size]? = some (.stringIter (formText op) (posF op (j + 1)))) := ((hb4.alloc hb4.size _).block _ (Array.getElem?_eq_some_iff.1 hit2.out).1).trans hit2.out
                     have Ra : Hid (Rd (w4.alloc (.cells #[.int .i64 kd, .string tx, .int .u64 nu, .int .i64 ta, .int .i64 tl] 58)) (w4.heap.size + 1) 5 (some ⟨w4.heap.size, 0, none⟩) 1 (tokCells [⟨kd, tx, nu, ta, tl⟩])) := Rd.new w4 _ _ (size := 5) (m := 1) rfl (by simp [maxLen])
                     have hz4 : w3.heap.size + 1 ≤ (w4.alloc (.cells #[.int .i64 kd, .string tx, .int .u64 nu, .int .i64 ta, .int .i64 tl] 58)).heap.size := by have := hb4.size; simp; omega
                     clear hb4))
                  | (at_builtin
                     go_must (
                       refine wpList_app _ rfl (.tmp 50) (.tmp 57) 56 rfl (w3.heap.size + 1) 58 i0 _ 5 48 Tryd.underlying56 hi0 hz0 hz1 hz2 rfl (by omega) _ j _ rfl HRa.out _ _ 1 _ _ rfl Ra.out (tokCells_one _) ?_ ?_ ?_ ?_
                       · simp only [maxLen]; omega
                       · omega
                       · exact hz4
                       intro v5 w5 hown5 hg5 _
                       rw [← tokCells_append, ← HTk.out] at hown5
                       have HO5 := Lib.hid hown5
                       have HB5 := Lib.hid (below_own HB4.out HRa.out hg5 (by omega) (by omega))
                       have HI5 : Hid (w5.heap[w3.heap.size]? = some (.stringIter (formText op) (posF op (j + 1)))) := (hg5.block _ (by have := hz4; omega) (fun e => by have := (HRa.out.lt _ e.symm).1; omega)).trans HI4.out
                       clear hown5 hg5)))
                go_roundw
                case rel =>
                  exact ⟨j + 1, by omega, HI5.out, HO5.out, HB5.out⟩
                case measure =>
                  have := H34.out
                  simp only [World.iterPos, HI5.out, HIt.out]
                  omega
              · obtain rfl : j = (formP op).length := by omega
                have hnx : ∀ ty, (Instr.next (.pointer (some ⟨w3.heap.size, 0, none⟩)) true ty).run Tryd.prog wr = _ := fun ty => Lib.run_next_end_at wr w3.heap.size (formText op) (posF op (formP op).length) ty HIt.out (by rw [HF.out]; omega)
                have htk : (lineToks ⟨op, oa, ob, oc, om⟩).take (formP op).length = lineToks ⟨op, oa, ob, oc, om⟩ := List.take_of_length_le (by rw [lineToks, List.length_map]; exact Nat.le_refl _)
                have HRl : Hid (RdT wr wr.heap.size Al (formP op).length (lineToks ⟨op, oa, ob, oc, om⟩)) := by have h := HRd.out; rw [htk] at h; exact h
                obtain ⟨PL, hPL⟩ : ∃ PL, printP (lineToks ⟨op, oa, ob, oc, om⟩) = PL := ⟨_, rfl⟩
                have hPl : PL.length ≤ 175 := by rw [← hPL]; exact print_line_le _ HImm.out
                have hpa := print_any (lineToks ⟨op, oa, ob, oc, om⟩) Al (formP op).length cl wr HRl.out (fun t ht => by obtain ⟨c, rfl⟩ := lineToks_mem ht; exact tok_num c _ HImm.out) (by rw [hPL]; omega) (HTab1.out.below ((HB3.out.trans (HBq.out.mono hsz3)).mono hlm'))
                unfold PrintPost at hpa
                rw [hPL] at hpa HA2
                have HPa := Lib.hid hpa
                have HBlq := Lib.hid (HBl3.out.below HBq.out)
                have HBq1 := Lib.hid (HB3.out.trans (HBq.out.mono hsz3))
                clear hpa hPL htk
                go_wp2_with (first
                  | (go_at_call 26
                     refine HPa.out.mono ?_
                     rintro e w4 ⟨rfl, hb4⟩
                     have HBl4 := Lib.hid (HBlq.out.below hb4)
                     have HB4 := Lib.hid (HBq1.out.trans (hb4.mono (Nat.le_trans hsz3 hszq)))
                     clear hb4)
                  | (go_at_call 22
                     refine (wstring_any _ _ _ _ _ HBl4.out (by rw [Lib.byteCells_length, List.length_append]; have e := HAl.out; rw [ByteArray.size_append]; show _ + (PL.toArray.size + 1) ≤ _; simp; omega) HB4.out.size).mono ?_
                     rintro e w5 ⟨rfl, hb5, hf5⟩
                     have HBl5 : Hid (Bld w1.heap.size w1.heap.size (Lib.byteCells ((acc ++ headP cnt k) ++ (PL ++ [10]))) w5) := by rw [Lib.byteCells_append _ (PL ++ [10])]; exact hb5
                     have HB5 := Lib.hid (HB4.out.trans hf5.below)
                     clear hb5 hf5))
                go_roundw
                case rel => exact ⟨k + 1, (acc ++ headP cnt k) ++ (PL ++ [10]), ⟨by omega, by go_num⟩, HA2, HBl5.out, HB5.out⟩
                case measure => simp [intOf]; omega
end Go.Proofs.YthdlihiehfkceaaDoor

namespace Go.Proofs.YthdlihiehfkceaaDoor
open Go.RowKit
set_option linter.unusedVariables false

/-- "r1 ← arg 0\nmore:\nr1 ← r1 - r2 # less\nback r1 more\nret r1\n" -/
def alText1 : ByteArray := ⟨#[114, 49, 32, 226, 134, 144, 32, 97, 114, 103, 32, 48, 10, 109, 111, 114, 101, 58, 10, 114, 49, 32, 226, 134, 144, 32, 114, 49, 32, 45, 32, 114, 50, 32, 35, 32, 108, 101, 115, 115, 10, 98, 97, 99, 107, 32, 114, 49, 32, 109, 111, 114, 101, 10, 114, 101, 116, 32, 114, 49, 10]⟩
/-- "ret r1\ngo x" -/
def alText2 : ByteArray := ⟨#[114, 101, 116, 32, 114, 49, 10, 103, 111, 32, 120]⟩
/-- "ret r16" -/
def alText3 : ByteArray := ⟨#[114, 101, 116, 32, 114, 49, 54]⟩
def alCode : List Ins := [⟨8, 1, 0, 0, 0⟩, ⟨3, 1, 1, 2, 0⟩, ⟨19, 1, 0, 0, 1⟩, ⟨20, 1, 0, 0, 0⟩]
theorem al1 : asmP alText1 = (alCode, 0, 0) := by decide +kernel
theorem al2 : asmP alText2 = ([], 7, 24) := by decide +kernel
theorem al3 : asmP alText3 = ([], 0, 23) := by decide +kernel
end Go.Proofs.YthdlihiehfkceaaDoor

namespace Go.Proofs.YthdlihiehfkceaaDoor
open Go.RowKit
set_option linter.unusedVariables false

theorem alt : textP alCode = ⟨#[114, 49, 32, 226, 134, 144, 32, 97, 114, 103, 32, 48, 10, 76, 49, 32, 58, 10, 114, 49, 32, 226, 134, 144, 32, 114, 49, 32, 45, 32, 114, 50, 10, 98, 97, 99, 107, 32, 114, 49, 32, 76, 49, 10, 114, 101, 116, 32, 114, 49, 10]⟩ := by decide +kernel
theorem asm_to {s : ByteArray} {l : List Ins} {a e : Int} (h : asmP s = (l, a, e)) (w : World) (hs : s.size ≤ maxLen) :
    Calls Tryd.prog 14 #[.string s] w fun e' w' => ∃ A c, e' = .returned (.tuple #[.slice A l.length c, .int .i64 a, .int .i64 e]) ∧ l.length ≤ c ∧ RdI w' w'.heap.size A l.length l ∧ w'.ownsRow w.heap.size 35 5 (.slice A l.length c) l.length (insCells l) ∧ Below w.heap.size w w' := by
  refine (assemble_any s w hs).mono ?_
  rintro e' w' ⟨v, rfl, hrow, hb⟩
  rw [h] at hrow ⊢
  simp only at hrow ⊢
  obtain ⟨A, c, rfl, hc, hr⟩ := Rd.of_own_cap hrow
  exact ⟨A, c, rfl, hc, hr, hrow, hb⟩
theorem alOk : ∀ i ∈ alCode, i.Ok := by
  intro i hi
  simp only [alCode, List.mem_cons, List.not_mem_nil, or_false] at hi
  rcases hi with rfl | rfl | rfl | rfl <;> exact ⟨by decide, by decide, by decide, by decide, by decide⟩

set_option maxRecDepth 100000 in
set_option maxHeartbeats 8000000 in
theorem alive4_any (w : World) (htab : PowTab w) : Calls Tryd.prog 10 #[] w fun e w' => e = .returned (.bool true) ∧ Below w.heap.size w w' := by
  have HT := Lib.hid htab
  clear htab
  go_enter Tryd.func10, Tryd.ntmps10
  go_wp2_with fail
  refine (asm_to al1 _ (by decide)).mono ?_
  rintro e w1 ⟨A, c, rfl, hnc, hr1, _, hb1⟩
  rw [show alCode.length = 4 from rfl] at hr1 hnc ⊢
  obtain ⟨b, o, rfl, hbB⟩ := hr1.addr (by omega)
  have HR1 := Lib.hid hr1
  have HB1 := Lib.hid hb1
  clear hr1 hb1
  go_wp2_with fail
  refine (asm_to al2 _ (by decide)).mono ?_
  rintro e w2 ⟨A2, c2, rfl, _, _, _, hb2⟩
  have HB2 := Lib.hid (HB1.out.trans (hb2.mono HB1.out.size))
  have HR2 := Lib.hid ((HR1.out.below hb2).more hb2.size)
  clear hb2
  go_wp2_with fail
  refine (asm_to al3 _ (by decide)).mono ?_
  rintro e w3 ⟨A3, c3, rfl, _, _, _, hb3⟩
  have HB3 := Lib.hid (HB2.out.trans (hb3.mono HB2.out.size))
  have HR3 := Lib.hid ((HR2.out.below hb3).more hb3.size)
  clear hb3
  obtain ⟨_, _, i0, h0, _, hi0, p0, _, _, _, _⟩ := HR3.out.insAt (k := 0) (by omega)
  cases h0
  obtain rfl : i0 = ⟨8, 1, 0, 0, 0⟩ := by simpa [alCode] using hi0.symm
  obtain ⟨_, _, i2, h2, _, hi2, p2, _, _, _, q2⟩ := HR3.out.insAt (k := 2) (by omega)
  cases h2
  obtain rfl : i2 = ⟨19, 1, 0, 0, 1⟩ := by simpa [alCode] using hi2.symm
  simp only [Nat.zero_mul, Nat.add_zero, Nat.reduceMul] at p0 p2 q2
  clear hi0 hi2
  have hta := text_any alCode (some ⟨b, o, none⟩) 4 c w3 HR3.out (by omega) alOk (HT.out.below HB3.out)
  rw [alt] at hta
  go_wp2_with (
    go_at_call 11
    refine hta.mono ?_
    rintro e w4 ⟨rfl, hb4⟩
    have HB4 := Lib.hid (HB3.out.trans (hb4.mono HB3.out.size))
    clear hb4)
  go_ret
  exact ⟨rfl, HB4.out⟩
end Go.Proofs.YthdlihiehfkceaaDoor

namespace Go.Proofs.YthdlihiehfkceaaDoor
open Go.RowKit

theorem regs_any (n : Int) (w : World) :
    Calls Tryd.prog 58 #[.int .i64 n] w fun e w' => e = .returned (.int .i64 (regsOf n)) ∧ w = w' := by
  go_enter Tryd.func58, Tryd.ntmps58
  go_wp2
  all_goals go_ret
  all_goals refine ⟨ret_int ?_, rfl⟩
  all_goals go_tidy
  all_goals (try simp only [beq_iff_eq, beq_eq_false_iff_ne, ne_eq] at *)
  all_goals unfold regsOf
  all_goals (repeat' split)
  all_goals omega
theorem imm_any (n : Int) (w : World) :
    Calls Tryd.prog 59 #[.int .i64 n] w fun e w' => e = .returned (.bool (immOf n)) ∧ w = w' := by
  go_enter Tryd.func59, Tryd.ntmps59
  go_wp2
  all_goals go_ret
  all_goals refine ⟨ret_bool ?_, rfl⟩
  all_goals go_tidy
  all_goals (try simp only [beq_iff_eq, beq_eq_false_iff_ne, ne_eq] at *)
  all_goals (unfold immOf; rw [Bool.eq_iff_iff]; simp)
  all_goals omega
end Go.Proofs.YthdlihiehfkceaaDoor

namespace Go.Proofs.YthdlihiehfkceaaDoor
open Go.RowKit
set_option linter.unusedVariables false
set_option linter.unusedSimpArgs false

theorem rplain_at0 (n a b c m : Int) (w : World) (n0 : 0 ≤ n) (n1 : n ≤ 21) (a0 : 0 ≤ a) (a1 : a ≤ 15) (b0 : 0 ≤ b) (b1 : b ≤ 15) (c0 : 0 ≤ c) (c1 : c ≤ 15) (hr : regsOf n = 0) :
    Calls Tryd.prog 36 #[.agg #[.int .i64 n, .int .i64 a, .int .i64 b, .int .i64 c, .int .u64 m]] w fun e w' => e = .returned (.bool (plainB n a b c m)) ∧ Below w.heap.size w w' := by
  have HE : Hid (plainB n a b c m = ((decide (0 < (0 : Int)) || decide (a = 0)) && (decide (1 < (0 : Int)) || decide (b = 0)) && (decide (2 < (0 : Int)) || decide (c = 0)) && (immOf n || decide (m = 0)))) := by
    show _ = _
    rw [Bool.eq_iff_iff]; simp [plainB, fieldB, hr]
    omega
  go_enter Tryd.func36, Tryd.ntmps36
  go_wp2_with fail
  refine (regs_any _ _).mono ?_
  rintro e w1 ⟨rfl, rfl⟩
  rw [hr]
  clear hr
  by_cases ha : a = 0
  · subst ha
    by_cases hb : b = 0
    · subst hb
      by_cases hc : c = 0
      · subst hc
        cases hI : immOf n
        · by_cases hM : m = 0
          · subst hM
            go_wp2_with fail
            refine (imm_any _ _).mono ?_
            rintro e w1 ⟨rfl, rfl⟩
            go_wp2
            go_ret
            exact ⟨ret_bool (by rw [HE.out]; simp [*]), (Below.refl _ _).alloc (Nat.le_refl _) _⟩
          · have hM2 : (m == 0) = false := by simpa using hM
            go_wp2_with fail
            refine (imm_any _ _).mono ?_
            rintro e w1 ⟨rfl, rfl⟩
            go_wp2
            go_ret
            exact ⟨ret_bool (by rw [HE.out]; simp [*]), (Below.refl _ _).alloc (Nat.le_refl _) _⟩
        · skip
          go_wp2_with fail
          refine (imm_any _ _).mono ?_
          rintro e w1 ⟨rfl, rfl⟩
          go_wp2
          go_ret
          exact ⟨ret_bool (by rw [HE.out]; simp [*]), (Below.refl _ _).alloc (Nat.le_refl _) _⟩
      · have hc2 : (c == 0) = false := by simpa using hc
        go_wp2
        go_ret
        exact ⟨ret_bool (by rw [HE.out]; simp [*]), (Below.refl _ _).alloc (Nat.le_refl _) _⟩
    · have hb2 : (b == 0) = false := by simpa using hb
      go_wp2
      go_ret
      exact ⟨ret_bool (by rw [HE.out]; simp [*]), (Below.refl _ _).alloc (Nat.le_refl _) _⟩
  · have ha2 : (a == 0) = false := by simpa using ha
    go_wp2
    go_ret
    exact ⟨ret_bool (by rw [HE.out]; simp [*]), (Below.refl _ _).alloc (Nat.le_refl _) _⟩

theorem rplain_at1 (n a b c m : Int) (w : World) (n0 : 0 ≤ n) (n1 : n ≤ 21) (a0 : 0 ≤ a) (a1 : a ≤ 15) (b0 : 0 ≤ b) (b1 : b ≤ 15) (c0 : 0 ≤ c) (c1 : c ≤ 15) (hr : regsOf n = 1) :
    Calls Tryd.prog 36 #[.agg #[.int .i64 n, .int .i64 a, .int .i64 b, .int .i64 c, .int .u64 m]] w fun e w' => e = .returned (.bool (plainB n a b c m)) ∧ Below w.heap.size w w' := by
  have HE : Hid (plainB n a b c m = ((decide (0 < (1 : Int)) || decide (a = 0)) && (decide (1 < (1 : Int)) || decide (b = 0)) && (decide (2 < (1 : Int)) || decide (c = 0)) && (immOf n || decide (m = 0)))) := by
    show _ = _
    rw [Bool.eq_iff_iff]; simp [plainB, fieldB, hr]
    omega
  go_enter Tryd.func36, Tryd.ntmps36
  go_wp2_with fail
  refine (regs_any _ _).mono ?_
  rintro e w1 ⟨rfl, rfl⟩
  rw [hr]
  clear hr
  by_cases hb : b = 0
  · subst hb
    by_cases hc : c = 0
    · subst hc
      cases hI : immOf n
      · by_cases hM : m = 0
        · subst hM
          go_wp2_with fail
          refine (imm_any _ _).mono ?_
          rintro e w1 ⟨rfl, rfl⟩
          go_wp2
          go_ret
          exact ⟨ret_bool (by rw [HE.out]; simp [*]), (Below.refl _ _).alloc (Nat.le_refl _) _⟩
        · have hM2 : (m == 0) = false := by simpa using hM
          go_wp2_with fail
          refine (imm_any _ _).mono ?_
          rintro e w1 ⟨rfl, rfl⟩
          go_wp2
          go_ret
          exact ⟨ret_bool (by rw [HE.out]; simp [*]), (Below.refl _ _).alloc (Nat.le_refl _) _⟩
      · skip
        go_wp2_with fail
        refine (imm_any _ _).mono ?_
        rintro e w1 ⟨rfl, rfl⟩
        go_wp2
        go_ret
        exact ⟨ret_bool (by rw [HE.out]; simp [*]), (Below.refl _ _).alloc (Nat.le_refl _) _⟩
    · have hc2 : (c == 0) = false := by simpa using hc
      go_wp2
      go_ret
      exact ⟨ret_bool (by rw [HE.out]; simp [*]), (Below.refl _ _).alloc (Nat.le_refl _) _⟩
  · have hb2 : (b == 0) = false := by simpa using hb
    go_wp2
    go_ret
    exact ⟨ret_bool (by rw [HE.out]; simp [*]), (Below.refl _ _).alloc (Nat.le_refl _) _⟩

theorem rplain_at2 (n a b c m : Int) (w : World) (n0 : 0 ≤ n) (n1 : n ≤ 21) (a0 : 0 ≤ a) (a1 : a ≤ 15) (b0 : 0 ≤ b) (b1 : b ≤ 15) (c0 : 0 ≤ c) (c1 : c ≤ 15) (hr : regsOf n = 2) :
    Calls Tryd.prog 36 #[.agg #[.int .i64 n, .int .i64 a, .int .i64 b, .int .i64 c, .int .u64 m]] w fun e w' => e = .returned (.bool (plainB n a b c m)) ∧ Below w.heap.size w w' := by
  have HE : Hid (plainB n a b c m = ((decide (0 < (2 : Int)) || decide (a = 0)) && (decide (1 < (2 : Int)) || decide (b = 0)) && (decide (2 < (2 : Int)) || decide (c = 0)) && (immOf n || decide (m = 0)))) := by
    show _ = _
    rw [Bool.eq_iff_iff]; simp [plainB, fieldB, hr]
    omega
  go_enter Tryd.func36, Tryd.ntmps36
  go_wp2_with fail
  refine (regs_any _ _).mono ?_
  rintro e w1 ⟨rfl, rfl⟩
  rw [hr]
  clear hr
  by_cases hc : c = 0
  · subst hc
    cases hI : immOf n
    · by_cases hM : m = 0
      · subst hM
        go_wp2_with fail
        refine (imm_any _ _).mono ?_
        rintro e w1 ⟨rfl, rfl⟩
        go_wp2
        go_ret
        exact ⟨ret_bool (by rw [HE.out]; simp [*]), (Below.refl _ _).alloc (Nat.le_refl _) _⟩
      · have hM2 : (m == 0) = false := by simpa using hM
        go_wp2_with fail
        refine (imm_any _ _).mono ?_
        rintro e w1 ⟨rfl, rfl⟩
        go_wp2
        go_ret
        exact ⟨ret_bool (by rw [HE.out]; simp [*]), (Below.refl _ _).alloc (Nat.le_refl _) _⟩
    · skip
      go_wp2_with fail
      refine (imm_any _ _).mono ?_
      rintro e w1 ⟨rfl, rfl⟩
      go_wp2
      go_ret
      exact ⟨ret_bool (by rw [HE.out]; simp [*]), (Below.refl _ _).alloc (Nat.le_refl _) _⟩
  · have hc2 : (c == 0) = false := by simpa using hc
    go_wp2
    go_ret
    exact ⟨ret_bool (by rw [HE.out]; simp [*]), (Below.refl _ _).alloc (Nat.le_refl _) _⟩

theorem rplain_at3 (n a b c m : Int) (w : World) (n0 : 0 ≤ n) (n1 : n ≤ 21) (a0 : 0 ≤ a) (a1 : a ≤ 15) (b0 : 0 ≤ b) (b1 : b ≤ 15) (c0 : 0 ≤ c) (c1 : c ≤ 15) (hr : regsOf n = 3) :
    Calls Tryd.prog 36 #[.agg #[.int .i64 n, .int .i64 a, .int .i64 b, .int .i64 c, .int .u64 m]] w fun e w' => e = .returned (.bool (plainB n a b c m)) ∧ Below w.heap.size w w' := by
  have HE : Hid (plainB n a b c m = ((decide (0 < (3 : Int)) || decide (a = 0)) && (decide (1 < (3 : Int)) || decide (b = 0)) && (decide (2 < (3 : Int)) || decide (c = 0)) && (immOf n || decide (m = 0)))) := by
    show _ = _
    rw [Bool.eq_iff_iff]; simp [plainB, fieldB, hr]
    omega
  go_enter Tryd.func36, Tryd.ntmps36
  go_wp2_with fail
  refine (regs_any _ _).mono ?_
  rintro e w1 ⟨rfl, rfl⟩
  rw [hr]
  clear hr
  cases hI : immOf n
  · by_cases hM : m = 0
    · subst hM
      go_wp2_with fail
      refine (imm_any _ _).mono ?_
      rintro e w1 ⟨rfl, rfl⟩
      go_wp2
      go_ret
      exact ⟨ret_bool (by rw [HE.out]; simp [*]), (Below.refl _ _).alloc (Nat.le_refl _) _⟩
    · have hM2 : (m == 0) = false := by simpa using hM
      go_wp2_with fail
      refine (imm_any _ _).mono ?_
      rintro e w1 ⟨rfl, rfl⟩
      go_wp2
      go_ret
      exact ⟨ret_bool (by rw [HE.out]; simp [*]), (Below.refl _ _).alloc (Nat.le_refl _) _⟩
  · skip
    go_wp2_with fail
    refine (imm_any _ _).mono ?_
    rintro e w1 ⟨rfl, rfl⟩
    go_wp2
    go_ret
    exact ⟨ret_bool (by rw [HE.out]; simp [*]), (Below.refl _ _).alloc (Nat.le_refl _) _⟩

set_option maxHeartbeats 4000000 in
theorem rplain_any (n a b c m : Int) (w : World) :
    Calls Tryd.prog 36 #[.agg #[.int .i64 n, .int .i64 a, .int .i64 b, .int .i64 c, .int .u64 m]] w fun e w' => e = .returned (.bool (plainB n a b c m)) ∧ Below w.heap.size w w' := by
  by_cases h : n < 0
  · have E : Hid (plainB n a b c m = false) := by
      show _ = _
      rw [← Bool.not_eq_true]
      intro h
      simp [plainB, fieldB] at h
      omega
    go_enter Tryd.func36, Tryd.ntmps36
    go_wp2
    go_ret
    exact ⟨ret_bool E.out.symm, (Below.refl _ _).alloc (Nat.le_refl _) _⟩
  have gnlt0 : 0 ≤ n := by omega
  clear h
  by_cases h : 21 < n
  · have E : Hid (plainB n a b c m = false) := by
      show _ = _
      rw [← Bool.not_eq_true]
      intro h
      simp [plainB, fieldB] at h
      omega
    go_enter Tryd.func36, Tryd.ntmps36
    go_wp2
    go_ret
    exact ⟨ret_bool E.out.symm, (Below.refl _ _).alloc (Nat.le_refl _) _⟩
  have g21ltn : n ≤ 21 := by omega
  clear h
  by_cases h : a < 0
  · have E : Hid (plainB n a b c m = false) := by
      show _ = _
      rw [← Bool.not_eq_true]
      intro h
      simp [plainB, fieldB] at h
      omega
    go_enter Tryd.func36, Tryd.ntmps36
    go_wp2
    go_ret
    exact ⟨ret_bool E.out.symm, (Below.refl _ _).alloc (Nat.le_refl _) _⟩
  have galt0 : 0 ≤ a := by omega
  clear h
  by_cases h : 15 < a
  · have E : Hid (plainB n a b c m = false) := by
      show _ = _
      rw [← Bool.not_eq_true]
      intro h
      simp [plainB, fieldB] at h
      omega
    go_enter Tryd.func36, Tryd.ntmps36
    go_wp2
    go_ret
    exact ⟨ret_bool E.out.symm, (Below.refl _ _).alloc (Nat.le_refl _) _⟩
  have g15lta : a ≤ 15 := by omega
  clear h
  by_cases h : b < 0
  · have E : Hid (plainB n a b c m = false) := by
      show _ = _
      rw [← Bool.not_eq_true]
      intro h
      simp [plainB, fieldB] at h
      omega
    go_enter Tryd.func36, Tryd.ntmps36
    go_wp2
    go_ret
    exact ⟨ret_bool E.out.symm, (Below.refl _ _).alloc (Nat.le_refl _) _⟩
  have gblt0 : 0 ≤ b := by omega
  clear h
  by_cases h : 15 < b
  · have E : Hid (plainB n a b c m = false) := by
      show _ = _
      rw [← Bool.not_eq_true]
      intro h
      simp [plainB, fieldB] at h
      omega
    go_enter Tryd.func36, Tryd.ntmps36
    go_wp2
    go_ret
    exact ⟨ret_bool E.out.symm, (Below.refl _ _).alloc (Nat.le_refl _) _⟩
  have g15ltb : b ≤ 15 := by omega
  clear h
  by_cases h : c < 0
  · have E : Hid (plainB n a b c m = false) := by
      show _ = _
      rw [← Bool.not_eq_true]
      intro h
      simp [plainB, fieldB] at h
      omega
    go_enter Tryd.func36, Tryd.ntmps36
    go_wp2
    go_ret
    exact ⟨ret_bool E.out.symm, (Below.refl _ _).alloc (Nat.le_refl _) _⟩
  have gclt0 : 0 ≤ c := by omega
  clear h
  by_cases h : 15 < c
  · have E : Hid (plainB n a b c m = false) := by
      show _ = _
      rw [← Bool.not_eq_true]
      intro h
      simp [plainB, fieldB] at h
      omega
    go_enter Tryd.func36, Tryd.ntmps36
    go_wp2
    go_ret
    exact ⟨ret_bool E.out.symm, (Below.refl _ _).alloc (Nat.le_refl _) _⟩
  have g15ltc : c ≤ 15 := by omega
  clear h
  have r0 : regsOf n = 0 ∨ regsOf n = 1 ∨ regsOf n = 2 ∨ regsOf n = 3 := by unfold regsOf; (repeat' split) <;> omega
  rcases r0 with h | h | h | h
  · exact rplain_at0 n a b c m w (by omega) (by omega) (by omega) (by omega) (by omega) (by omega) (by omega) (by omega) h
  · exact rplain_at1 n a b c m w (by omega) (by omega) (by omega) (by omega) (by omega) (by omega) (by omega) (by omega) h
  · exact rplain_at2 n a b c m w (by omega) (by omega) (by omega) (by omega) (by omega) (by omega) (by omega) (by omega) h
  · exact rplain_at3 n a b c m w (by omega) (by omega) (by omega) (by omega) (by omega) (by omega) (by omega) (by omega) h
end Go.Proofs.YthdlihiehfkceaaDoor

namespace Go.Proofs.YthdlihiehfkceaaDoor
open Go.RowKit
set_option linter.unusedVariables false

def Ins.plain (i : Ins) : Bool := plainB i.op i.a i.b i.c i.imm

theorem all_any (l : List Ins) (A : Option Addr) (n c : Nat) (w : World) (hr : RdI w w.heap.size A n l) :
    Calls Tryd.prog 18 #[.slice A n c] w fun e w' => e = .returned (.bool (l.all Ins.plain)) ∧ Below w.heap.size w w' := by
  have h63 := hr.le
  have hlen := hr.insLen
  have HR := Lib.hid hr
  clear hr
  unfold maxLen at h63
  have HL := Lib.hid hlen
  clear hlen
  go_enter Tryd.func18, Tryd.ntmps18
  go_wp2
  go_loopw [3] (fun i wr => ∃ k : Nat, k ≤ n ∧ i = .int .i64 k ∧ Below w.heap.size w wr ∧ Hid (∀ j i, j < k → l[j]? = some i → i.plain = true)) (fun i wr => n - (intOf i).toNat)
  case atStart => exact ⟨0, by omega, rfl, Below.refl _ _, fun j i hj => by omega⟩
  case round =>
    obtain ⟨k, hk, rfl, hb, hall⟩ := hrel
    have HB := Lib.hid hb
    clear hb
    by_cases hlt : k < n
    · obtain ⟨b, o, i, rfl, hbB, hi, c0, c1, c2, c3, c4⟩ := (HR.out.below HB.out).insAt hlt
      have HI := Lib.hid hi
      clear hi
      cases hp : plainB i.op i.a i.b i.c i.imm
      · have E : Hid (l.all Ins.plain = false) := List.all_eq_false.2 ⟨i, List.mem_of_getElem? HI.out, by simp [Ins.plain, hp]⟩
        go_wp2_with (go_at_call 36; refine (rplain_any _ _ _ _ _ _).mono ?_; rintro e w1 ⟨rfl, hb1⟩)
        go_ret
        exact ⟨ret_bool E.out.symm, HB.out.trans (hb1.mono HB.out.size)⟩
      · have hn : Hid (∀ j i, j < k + 1 → l[j]? = some i → i.plain = true) := fun j i' hj hi => by
          rcases Nat.lt_or_ge j k with h | h
          · exact hall.out j i' h hi
          · obtain rfl : j = k := by omega
            have e := HI.out
            rw [hi] at e
            obtain rfl : i' = i := by simpa using e
            exact hp
        go_wp2_with (go_at_call 36; refine (rplain_any _ _ _ _ _ _).mono ?_; rintro e w1 ⟨rfl, hb1⟩)
        go_roundw
        case rel => exact ⟨k + 1, by omega, by go_num, HB.out.trans (hb1.mono HB.out.size), hn⟩
        case measure => simp [intOf]; omega
    · obtain rfl : k = n := by omega
      have E : Hid (l.all Ins.plain = true) := List.all_eq_true.2 fun i hi => by
        obtain ⟨j, hj, e⟩ := List.getElem_of_mem hi
        exact hall.out j i (by rw [← HL.out]; exact hj) (by rw [List.getElem?_eq_getElem hj, e])
      go_wp2
      go_ret
      exact ⟨ret_bool E.out.symm, HB.out⟩
end Go.Proofs.YthdlihiehfkceaaDoor

namespace Go.Proofs.YthdlihiehfkceaaDoor
open Go.RowKit
set_option linter.unusedVariables false

theorem dec_small {m : Nat} (h : m < 10) : Lib.decDigits m = [UInt8.ofNat (48 + m)] := by rw [Lib.decDigits, dif_pos h]
theorem dec_big {m : Nat} (h : ¬ m < 10) : Lib.decDigits m = Lib.decDigits (m / 10) ++ [UInt8.ofNat (48 + m % 10)] := by rw [Lib.decDigits, dif_neg h]
theorem str_one (x : Int) (T : ByteArray) : (strOfNums [x] ++ T).data.toList = UInt8.ofNat x.toNat :: T.data.toList := by
  rw [ByteArray.data_append, Array.toList_append, strOfNums_data]; rfl
theorem toList_nil {T : ByteArray} : (T.toList == []) = decide (T.data.toList = []) := by
  rw [ByteArray.toList_eq, Bool.eq_iff_iff]; simp
theorem dig_x (m : Nat) : ((48 + (m : Int) % 10) % 256).toNat = 48 + m % 10 := by omega

set_option maxRecDepth 100000 in
set_option maxHeartbeats 4000000 in
theorem rdigits_any (u : Nat) (hu64 : u < 18446744073709551616) (w : World) :
    Calls Tryd.prog 28 #[.int .u64 u] w fun e w' => e = .returned (.string ⟨(Lib.decDigits u).toArray⟩) ∧ Below w.heap.size w w' := by
  have HN : Hid ((Lib.decDigits u).length ≤ 20) := by show _ ≤ _; rw [Lib.decDigits_length]; exact Lib.nDigits_le20 u hu64
  have HU := Lib.hid hu64
  clear hu64
  go_enter Tryd.func28, Tryd.ntmps28
  go_wp2
  go_loopw [0, 3] (fun x t wr => ∃ (m : Nat) (T : ByteArray), (x = .int .u64 m ∧ t = .string T ∧ m < 18446744073709551616 ∧ T.size ≤ 20) ∧ Hid ((T.data.toList = [] ∧ m = u) ∨ (T.data.toList ≠ [] ∧ 1 ≤ m ∧ Lib.decDigits m ++ T.data.toList = Lib.decDigits u)) ∧ Below w.heap.size w wr) (fun x _ _ => (intOf x).toNat + 0)
  case atStart => exact ⟨u, ⟨#[]⟩, ⟨rfl, rfl, HU.out, by decide⟩, .inl ⟨rfl, rfl⟩, Below.refl _ _⟩
  case round =>
    obtain ⟨m, T, ⟨rfl, rfl, hm64, hT20⟩, HI, hb⟩ := hrel
    have hsz := hb.size
    have HB := Lib.hid hb
    clear hb
    have hcv : ∀ x : Int, (convert 31 9 (.slice (some ⟨wr.heap.size, 0, none⟩) 1 1)).run Tryd.prog (wr.alloc (.cells #[.int .u8 x] 5)) = .ok (.string (strOfNums [x])) (wr.alloc (.cells #[.int .u8 x] 5)) := fun x =>
      conv_str (P := Tryd.prog) (c := 1) (l := [x]) 31 9 5 Tryd.underlying31 Tryd.underlying5 Tryd.underlying9 (Rd.new wr #[.int .u8 x] 5 rfl (by simp [maxLen]))
    have hsl : ∀ x : Int, (strOfNums [x]).size = 1 := fun x => strOfNums_size _
    by_cases h9 : 9 < m
    · have h9' : (9 : Int) < (m : Int) := by omega
      have h0 : ((m : Int) / 10 == 0) = false := by rw [beq_eq_false_iff_ne]; omega
      have HM : Hid ((strOfNums [48 + (m : Int) % 10] ++ T).data.toList ≠ [] ∧ 1 ≤ m / 10 ∧ Lib.decDigits (m / 10) ++ (strOfNums [48 + (m : Int) % 10] ++ T).data.toList = Lib.decDigits u) := by
        rw [str_one, show (48 + (m : Int) % 10).toNat = 48 + m % 10 by omega]
        refine ⟨by simp, by omega, ?_⟩
        rcases HI.out with ⟨h, rfl⟩ | ⟨_, _, h⟩
        · rw [h, ← dec_big (by omega)]
        · rw [← h, dec_big (show ¬ m < 10 by omega)]; simp
      have HZ : Hid ((strOfNums [48 + (m : Int) % 10] ++ T).size ≤ 20) := by
        have h := congrArg List.length HM.out.2.2
        rw [List.length_append] at h
        have h20 := HN.out
        have e : (strOfNums [48 + (m : Int) % 10] ++ T).size = (strOfNums [48 + (m : Int) % 10] ++ T).data.toList.length := rfl
        show _ ≤ _
        omega
      go_wp2
      go_roundw
      case rel => exact ⟨m / 10, _, ⟨by simp, rfl, by omega, HZ.out⟩, .inr HM.out, HB.out.alloc hsz _⟩
      case measure => simp only [intOf]; omega
    · have h9' : ¬ (9 : Int) < (m : Int) := by omega
      by_cases hT : T.data.toList = []
      · have hTe : (T.toList == []) = true := by rw [toList_nil]; exact decide_eq_true hT
        have h0 : ((m : Int) / 10 == 0) = true := by rw [beq_iff_eq]; omega
        have HE : Hid (strOfNums [48 + (m : Int) % 10] ++ T = ⟨(Lib.decDigits u).toArray⟩) := by
          obtain rfl : m = u := by
            rcases HI.out with ⟨_, h⟩ | ⟨h, _⟩
            · exact h
            · exact absurd hT h
          apply ByteArray.ext
          apply Array.toList_inj.1
          rw [str_one, show (48 + (m : Int) % 10).toNat = 48 + m by omega, hT, dec_small (by omega)]
        go_wp2
        go_ret
        exact ⟨by rw [HE.out]; rfl, HB.out.alloc hsz _⟩
      · have hTe : (T.toList == []) = false := by rw [toList_nil]; exact decide_eq_false hT
        have HE : Hid (strOfNums [48 + (m : Int)] ++ T = ⟨(Lib.decDigits u).toArray⟩) := by
          rcases HI.out with ⟨h, _⟩ | ⟨_, _, h⟩
          · exact absurd h hT
          apply ByteArray.ext
          apply Array.toList_inj.1
          rw [str_one, show (48 + (m : Int)).toNat = 48 + m by omega, ← h, dec_small (by omega)]; rfl
        go_wp2
        go_ret
        exact ⟨by rw [HE.out]; rfl, HB.out.alloc hsz _⟩
end Go.Proofs.YthdlihiehfkceaaDoor
