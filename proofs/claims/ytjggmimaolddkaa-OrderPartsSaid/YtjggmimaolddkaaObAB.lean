/-
  Texts of one proof, joined (wip/gen/pack.py): OrdD, SpecA, CtrA, CtrB, CtrC, CtrD, CtrE, CtrF, ChkA, ChkB, ChkC.
-/
import Derived.Test.YtjggmimaolddkaaObAA
import Derived.StillTailTactics
import Derived.BigQuiet
import Derived.Deep.Cut
import Derived.WalkKit
import Derived.Lib.Hide
import Derived.Test.YtjggmimaolddkaaRows
import Derived.Handy
import Derived.WalkLawsBesides
import Derived.WalkSpells
import Derived.Outline
namespace Go.Proofs.Ytjggmimaolddkaa
open Go.RowKit Go.Maps Go.WideMaps
set_option linter.unusedVariables false

theorem o_grown {w w' : World} (hb : Below w.heap.size w w') : w.grownBy w' none := ⟨hb.os, hb.tape, hb.output, hb.size, fun k hk _ => hb.block k hk⟩
theorem neq_res (a b c d : Int) (w : World) :
    (binOp .neq 33 (.agg #[.int .i64 a, .int .u64 b]) (.agg #[.int .i64 c, .int .u64 d])).run Try.prog w = .ok (.bool (!decide (a = c ∧ b = d))) w := by
  have e : decide (a = c ∧ b = d) = ((a == c) && (b == d)) := by
    rw [Bool.eq_iff_iff]
    simp only [decide_eq_true_eq, Bool.and_eq_true, beq_iff_eq]
  rw [e]
  go_simp
  by_cases h1 : a = c
  · by_cases h2 : b = d
    · simp [h1, h2]
    · simp [h1, h2]
  · simp [h1]
def rwCells (l : List Rw7) : List Value := l.flatMap Rw7.cells
abbrev RdW7 (w : World) (B : Nat) (A : Option Addr) (n : Nat) (l : List Rw7) : Prop := Rd w B 6 A n (rwCells l)
theorem Rd.rwLen {w : World} {B n : Nat} {A : Option Addr} {l : List Rw7} (h : RdW7 w B A n l) : l.length = n := by
  have h1 := h.len
  have h2 := o_flat_len Rw7.cells 6 (fun _ => rfl) l
  unfold rwCells at h1
  omega
theorem Rd.rwAt {w : World} {B n : Nat} {A : Option Addr} {l : List Rw7} (h : RdW7 w B A n l) {k : Nat} (hk : k < n) :
    ∃ b o r, A = some ⟨b, o, none⟩ ∧ b < B ∧ l[k]? = some r ∧ ∀ j u, r.cells[j]? = some u → w.cell? ⟨b, o + (k * 6 + j), none⟩ = some u := by
  obtain ⟨b, o, e, hb, hc⟩ := h.at_ (by omega)
  have hl : k < l.length := by rw [h.rwLen]; exact hk
  refine ⟨b, o, l[k]'hl, e, hb, List.getElem?_eq_getElem hl, fun j u hu => hc _ _ ?_⟩
  have hj : j < 6 := (List.getElem?_eq_some_iff.1 hu).1
  unfold rwCells
  rw [o_flat_at Rw7.cells 6 (fun _ => rfl) l k _ j (List.getElem?_eq_getElem hl) hj]
  exact hu
/-- A row's numbers are of their kinds. -/
structure Rw7.Ok (r : Rw7) : Prop where
  key : KOk r.key
  at_ : -9223372036854775808 ≤ r.at_ ∧ r.at_ ≤ 9223372036854775807
  nv : ∃ A n c, r.nv = .slice A n c

set_option maxRecDepth 100000 in
set_option maxHeartbeats 8000000 in
theorem ofits_any (recs : List Rc7) (rows : List Rw7) (A : Option Addr) (n c : Nat) (A' : Option Addr) (m c' : Nat) (w : World) (hr : RdR w w.heap.size A n recs) (hr' : RdW7 w w.heap.size A' m rows) (hok : ∀ r ∈ rows, r.Ok) (hrk : ∀ q ∈ recs, KOk q.key) (hm : m ≤ 1000) :
    Calls Try.prog 7 #[.slice A n c, .slice A' m c'] w fun e w' => e = .returned (.tuple #[.int .i64 (fits7 recs rows).1, .int .i64 (fits7 recs rows).2]) ∧ Below w.heap.size w w' := by
  have hlen := hr'.rwLen
  have HR := Lib.hid hr
  have HR' := Lib.hid hr'
  have HLen := Lib.hid hlen
  have HOk := Lib.hid hok
  have HRk := Lib.hid hrk
  have hmm := @run_makeMap Try.prog
  clear hr hr' hlen hok hrk
  go_enter Try.func7, Try.ntmps7
  go_wp2
  go_loopw [7, 18] (fun lv i wr => ∃ (k s : Nat) (last : Int) (seen : List (Int × Int)) (D : DataW Unit), (k ≤ m ∧ i = .int .i64 k ∧ lv = .int .i64 last ∧ s ≤ k) ∧ Hid (fitsGo7 recs (rows.drop k) seen last k = fits7 recs rows) ∧ Hid (wr.ownsMap Try.prog 69 (plainElem (H := Unit) Try.prog 3) w.heap.size s D) ∧ Hid (SeenD D seen) ∧ Hid (Below w.heap.size w wr)) (fun _ i _ => m - (intOf i).toNat)
  case atStart => exact ⟨0, 0, 0, [], .map [], ⟨by omega, rfl, rfl, by omega⟩, rfl, World.ownsMap_made _ _ _ _, SeenD.nil, (Below.refl _ _).alloc (Nat.le_refl _) _⟩
  case round =>
    obtain ⟨k, s, last, seen, D, ⟨hk, rfl, rfl, hs⟩, HG, HM, HD, HB⟩ := hrel
    by_cases hlt : k < m
    · have hlti : (k : Int) < (m : Int) := by omega
      obtain ⟨b, o, r, rfl, hb, hrw, hc⟩ := (HR'.out.below HB.out).rwAt hlt
      have hkl : k < rows.length := by rw [HLen.out]; exact hlt
      have hdr : rows.drop k = r :: rows.drop (k + 1) := by
        rw [List.drop_eq_getElem_cons hkl]; rw [List.getElem?_eq_getElem hkl] at hrw; injection hrw with hrw; rw [hrw]
      have hg := HG.out
      rw [hdr, fitsGo7] at hg
      have HRo := Lib.hid (HOk.out r (List.mem_of_getElem? hrw))
      obtain ⟨nA, nn, nc, hnv⟩ := HRo.out.nv
      obtain ⟨rat, rwho, rtag, rco, rva, rnv⟩ := r
      simp only at hnv
      subst hnv
      have d0 := hc 0 _ rfl
      have d1 := hc 1 _ rfl
      have d2 := hc 2 _ rfl
      have d3 := hc 3 _ rfl
      have d4 := hc 4 _ rfl
      have d5 := hc 5 _ rfl
      simp only [← Nat.add_assoc, Nat.add_zero] at d0 d1 d2 d3 d4 d5
      clear hc hdr hrw hkl
      go_upto_region 7 with fail
      obtain ⟨W1, hW1⟩ : ∃ W1, (wr.alloc (.cells #[.int .i64 rat, .int .i64 rwho, .int .i64 rtag, .int .i64 rco, .int .u64 rva, .slice nA nn nc] 36)).alloc (.cells #[.int .i64 rwho, .int .i64 rtag] 69) = W1 := ⟨_, rfl⟩
      rw [hW1]
      have HI1 : Hid (Bk W1 wr.heap.size 36 #[.int .i64 rat, .int .i64 rwho, .int .i64 rtag, .int .i64 rco, .int .u64 rva, .slice nA nn nc]) := by show Bk _ _ _ _; rw [← hW1]; exact (Bk.new _ _ _).alloc _
      have HK1 : Hid (Bk W1 (wr.heap.size + 1) 69 #[.int .i64 rwho, .int .i64 rtag]) := by
        show Bk _ _ _ _
        rw [← hW1]
        have h := Bk.new (wr.alloc (.cells #[.int .i64 rat, .int .i64 rwho, .int .i64 rtag, .int .i64 rco, .int .u64 rva, .slice nA nn nc] 36)) 69 #[.int .i64 rwho, .int .i64 rtag]
        simpa using h
      have HB1 : Hid (Below w.heap.size w W1) := by show Below _ _ _; rw [← hW1]; exact (HB.out.alloc HB.out.size _).alloc (by have := HB.out.size; simp; omega) _
      have HM1 : Hid (W1.ownsMap Try.prog 69 (plainElem (H := Unit) Try.prog 3) w.heap.size s D) := by
        show World.ownsMap _ _ _ _ _ _ _
        rw [← hW1]
        exact (HM.out.kept (World.grownBy_alloc _ _ none) (by simp)).kept (World.grownBy_alloc _ _ none) (by simp)
      clear hW1 d0 d1 d2 d3 d4 d5
      have k0 : W1.cell? ⟨wr.heap.size + 1, 0, none⟩ = some (.int .i64 rwho) := HK1.out.cell 0
      have k1 : W1.cell? ⟨wr.heap.size + 1, 1, none⟩ = some (.int .i64 rtag) := HK1.out.cell 1
      have hfi := ofind_any recs A n c rwho rtag W1 ((HR.out.below HB1.out).more HB1.out.size)
      unfold findI at hfi
      have hkey : Rw7.key ⟨rat, rwho, rtag, rco, rva, .slice nA nn nc⟩ = (rwho, rtag) := rfl
      rw [hkey] at hg
      cases hf : findK (rwho, rtag) recs 0 with
      | none =>
        rw [hf] at hg hfi
        simp only at hg hfi
        have HE := Lib.hid hg
        clear hg hf
        go_wp2_with (
          go_at_call 18
          refine hfi.mono ?_
          rintro e w2 ⟨rfl, hb2⟩
          have HB2 := Lib.hid (HB1.out.trans (hb2.mono HB1.out.size))
          clear hb2)
        go_ret2
        exact ⟨by rw [← HE.out]; rfl, HB2.out⟩
      | some iq =>
        obtain ⟨i, q⟩ := iq
        rw [hf] at hg hfi
        simp only at hg hfi
        obtain ⟨hqm, hqk, _, hqi⟩ := findK_mem hf
        rw [Nat.sub_zero] at hqi
        have hin : i < n := by rw [← HR.out.rcLen]; exact (List.getElem?_eq_some_iff.1 hqi).1
        have hini : (i : Int) < (n : Int) := by omega
        have hi0 : ¬ (i : Int) < 0 := by omega
        obtain ⟨bR, oR, q', hA, hbR, hq', hcR⟩ := HR.out.rcAt hin
        subst hA
        rw [hqi] at hq'
        obtain rfl := Option.some.inj hq'
        have HG2 := Lib.hid hg
        have HFi := Lib.hid hfi
        have HKo : Hid (KOk (rwho, rtag)) := HRo.out.key
        obtain ⟨q_w, q_t, q_p, x0, x1, x2, x3, q_f, q_l, q_s, q_d, q_c, q_v⟩ := q
        clear hg hf hfi hqm hqi hq'
        go_upto_region 10 with (
          go_at_call 18
          refine HFi.out.mono ?_
          rintro e w2 ⟨rfl, hb2⟩
          have HB2 := Lib.hid (HB1.out.trans (hb2.mono HB1.out.size))
          have HI2 := Lib.hid (HI1.out.below hb2 HI1.out.lt)
          have HK2 := Lib.hid (HK1.out.below hb2 HK1.out.lt)
          have HM2 := Lib.hid (HM1.out.kept (o_grown hb2) (by simp))
          clear hb2 k0 k1)
        have e0 := (HB2.out.cell (p := ⟨bR, oR + (i * 13 + 0), none⟩) hbR).trans (hcR 0 _ rfl)
        have e1 := (HB2.out.cell (p := ⟨bR, oR + (i * 13 + 1), none⟩) hbR).trans (hcR 1 _ rfl)
        have e2 := (HB2.out.cell (p := ⟨bR, oR + (i * 13 + 2), none⟩) hbR).trans (hcR 2 _ rfl)
        have e3 := (HB2.out.cell (p := ⟨bR, oR + (i * 13 + 3), none⟩) hbR).trans (hcR 3 _ rfl)
        have e4 := (HB2.out.cell (p := ⟨bR, oR + (i * 13 + 4), none⟩) hbR).trans (hcR 4 _ rfl)
        have e5 := (HB2.out.cell (p := ⟨bR, oR + (i * 13 + 5), none⟩) hbR).trans (hcR 5 _ rfl)
        have e6 := (HB2.out.cell (p := ⟨bR, oR + (i * 13 + 6), none⟩) hbR).trans (hcR 6 _ rfl)
        have e7 := (HB2.out.cell (p := ⟨bR, oR + (i * 13 + 7), none⟩) hbR).trans (hcR 7 _ rfl)
        have e8 := (HB2.out.cell (p := ⟨bR, oR + (i * 13 + 8), none⟩) hbR).trans (hcR 8 _ rfl)
        have e9 := (HB2.out.cell (p := ⟨bR, oR + (i * 13 + 9), none⟩) hbR).trans (hcR 9 _ rfl)
        have e10 := (HB2.out.cell (p := ⟨bR, oR + (i * 13 + 10), none⟩) hbR).trans (hcR 10 _ rfl)
        have e11 := (HB2.out.cell (p := ⟨bR, oR + (i * 13 + 11), none⟩) hbR).trans (hcR 11 _ rfl)
        have e12 := (HB2.out.cell (p := ⟨bR, oR + (i * 13 + 12), none⟩) hbR).trans (hcR 12 _ rfl)
        simp only [← Nat.add_assoc, Nat.add_zero] at e0 e1 e2 e3 e4 e5 e6 e7 e8 e9 e10 e11 e12
        clear hcR
        go_upto_region 11 with fail
        obtain ⟨W3, hW3⟩ : ∃ W3, w2.alloc (.cells #[.int .i64 q_w, .int .i64 q_t, .int .i64 q_p, .int .u64 x0, .int .u64 x1, .int .u64 x2, .int .u64 x3, .int .i64 q_f, .int .i64 q_l, .int .i64 q_s, .bool q_d, .int .i64 q_c, .int .u64 q_v] 41) = W3 := ⟨_, rfl⟩
        rw [hW3]
        have HQ3 : Hid (Bk W3 w2.heap.size 41 #[.int .i64 q_w, .int .i64 q_t, .int .i64 q_p, .int .u64 x0, .int .u64 x1, .int .u64 x2, .int .u64 x3, .int .i64 q_f, .int .i64 q_l, .int .i64 q_s, .bool q_d, .int .i64 q_c, .int .u64 q_v]) := by show Bk _ _ _ _; rw [← hW3]; exact Bk.new _ _ _
        have HB3 : Hid (Below w.heap.size w W3) := by show Below _ _ _; rw [← hW3]; exact HB2.out.alloc HB2.out.size _
        have HI3 : Hid (Bk W3 wr.heap.size 36 #[.int .i64 rat, .int .i64 rwho, .int .i64 rtag, .int .i64 rco, .int .u64 rva, .slice nA nn nc]) := by show Bk _ _ _ _; rw [← hW3]; exact HI2.out.alloc _
        have HK3 : Hid (Bk W3 (wr.heap.size + 1) 69 #[.int .i64 rwho, .int .i64 rtag]) := by show Bk _ _ _ _; rw [← hW3]; exact HK2.out.alloc _
        have HM3 : Hid (W3.ownsMap Try.prog 69 (plainElem (H := Unit) Try.prog 3) w.heap.size s D) := by
          show World.ownsMap _ _ _ _ _ _ _
          rw [← hW3]
          exact HM2.out.kept (World.grownBy_alloc _ _ none) (by simp)
        clear hW3 e0 e1 e2 e3 e4 e5 e6 e7 e8 e9 e10 e11 e12
        have hlk := look_seen HM3.out HD.out HKo.out
        unfold okV at hlk
        simp only at hlk
        have k0 : W3.cell? ⟨wr.heap.size + 1, 0, none⟩ = some (.int .i64 rwho) := HK3.out.cell 0
        have k1 : W3.cell? ⟨wr.heap.size + 1, 1, none⟩ = some (.int .i64 rtag) := HK3.out.cell 1
        have r0 : W3.cell? ⟨wr.heap.size, 0, none⟩ = some (.int .i64 rat) := HI3.out.cell 0
        have r3 : W3.cell? ⟨wr.heap.size, 3, none⟩ = some (.int .i64 rco) := HI3.out.cell 3
        have r4 : W3.cell? ⟨wr.heap.size, 4, none⟩ = some (.int .u64 rva) := HI3.out.cell 4
        have s7 : W3.cell? ⟨w2.heap.size, 7, none⟩ = some (.int .i64 q_f) := HQ3.out.cell 7
        have s8 : W3.cell? ⟨w2.heap.size, 8, none⟩ = some (.int .i64 q_l) := HQ3.out.cell 8
        have s10 : W3.cell? ⟨w2.heap.size, 10, none⟩ = some (.bool q_d) := HQ3.out.cell 10
        have s11 : W3.cell? ⟨w2.heap.size, 11, none⟩ = some (.int .i64 q_c) := HQ3.out.cell 11
        have s12 : W3.cell? ⟨w2.heap.size, 12, none⟩ = some (.int .u64 q_v) := HQ3.out.cell 12
        by_cases hsn : (rwho, rtag) ∈ seen
        · rw [if_pos hsn] at hlk
          have HE : Hid (((k : Int), (5 : Int)) = fits7 recs rows) := by
            have h := HG2.out
            have hb5 : badRow ⟨q_w, q_t, q_p, x0, x1, x2, x3, q_f, q_l, q_s, q_d, q_c, q_v⟩ ⟨rat, rwho, rtag, rco, rva, .slice nA nn nc⟩ seen last = 5 := by unfold badRow; rw [if_pos (show (rwho, rtag) ∈ seen from hsn)]
            rw [hb5, if_pos (by decide)] at h
            exact h
          clear hsn
          go_wp2
          go_ret2
          exact ⟨by rw [← HE.out]; rfl, HB3.out⟩
        · rw [if_neg hsn] at hlk
          have HSn := Lib.hid hsn
          have HBad : Hid (badRow ⟨q_w, q_t, q_p, x0, x1, x2, x3, q_f, q_l, q_s, q_d, q_c, q_v⟩ ⟨rat, rwho, rtag, rco, rva, .slice nA nn nc⟩ seen last = if rat < last ∨ rat < q_f ∨ (q_d = true ∧ q_l < rat) then 50 else if q_d = true ∧ ¬ (rco = q_c ∧ rva = q_v) then 51 else 0) := by
            show _ = _
            unfold badRow
            rw [if_neg (show ¬ (rwho, rtag) ∈ seen from hsn)]
          clear hsn
          have h50 : rat < last ∨ rat < q_f ∨ (q_d = true ∧ q_l < rat) → ((k : Int), (50 : Int)) = fits7 recs rows := by
            intro hx
            have h := HG2.out
            rw [HBad.out, if_pos hx, if_pos (by decide)] at h
            exact h
          by_cases h1 : rat < last
          · have HE := Lib.hid (h50 (.inl h1))
            clear h50
            go_wp2
            go_ret2
            exact ⟨by rw [← HE.out]; rfl, HB3.out⟩
          by_cases h2 : rat < q_f
          · have HE := Lib.hid (h50 (.inr (.inl h2)))
            clear h50
            go_wp2
            go_ret2
            exact ⟨by rw [← HE.out]; rfl, HB3.out⟩
          cases q_d with
          | true =>
            by_cases h3 : q_l < rat
            · have HE := Lib.hid (h50 (.inr (.inr ⟨rfl, h3⟩)))
              clear h50
              go_wp2
              go_ret2
              exact ⟨by rw [← HE.out]; rfl, HB3.out⟩
            · clear h50
              have hnq := fun W => neq_res rco rva q_c q_v W
              by_cases h4 : rco = q_c ∧ rva = q_v
              · rw [decide_eq_true h4] at hnq
                simp only [Bool.not_true] at hnq
                go_upto_region 17 with fail
                have hgd : W3.grownBy W3.drew none := ⟨rfl, rfl, rfl, Nat.le_refl _, fun _ _ _ => rfl⟩
                have HMD := Lib.hid (HM3.out.kept hgd (by simp))
                have hlD := look_seen HMD.out HD.out HKo.out
                rw [if_neg HSn.out] at hlD
                obtain ⟨v0, st, V1, V2, be, bl, bs, bo, bt⟩ := bump_look HMD.out HD.out (by unfold maxLen; omega) HKo.out HSn.out
                unfold okV at hlD be bl
                simp only at hlD be bl
                have kD0 : W3.drew.cell? ⟨wr.heap.size + 1, 0, none⟩ = some (.int .i64 rwho) := k0
                have kD1 : W3.drew.cell? ⟨wr.heap.size + 1, 1, none⟩ = some (.int .i64 rtag) := k1
                have HBo := Lib.hid bo
                have HBt := Lib.hid bt
                clear bo bt
                go_region
                have hgt := HBt.out.grown
                have hml : w.heap.size < wr.heap.size := by
                  obtain ⟨es, clock, hb9, _⟩ := HM.out
                  exact (Array.getElem?_eq_some_iff.1 hb9).1
                have HI4 := Lib.hid ((HI3.out.grown hgd (by simp)).grown hgt (by simp; omega))
                have HB4 : Hid (Below w.heap.size w V2) := HB3.out.drew.grown hgt HB3.out.size (fun r e => by cases e; exact Nat.le_refl _)
                have t0 : V2.cell? ⟨wr.heap.size, 0, none⟩ = some (.int .i64 rat) := HI4.out.cell 0
                have HD4 := Lib.hid (HD.out.add HMD.out.isMap HKo.out HSn.out)
                have hb0 : badRow ⟨q_w, q_t, q_p, x0, x1, x2, x3, q_f, q_l, q_s, true, q_c, q_v⟩ ⟨rat, rwho, rtag, rco, rva, .slice nA nn nc⟩ seen last = 0 := by
                  rw [HBad.out, if_neg (by rintro (hx | hx | hx); exact h1 hx; exact h2 hx; exact h3 hx.2), if_neg (fun e => e.2 h4)]
                have HG4 : Hid (fitsGo7 recs (rows.drop (k + 1)) (seen ++ [(rwho, rtag)]) rat (k + 1) = fits7 recs rows) := by
                  have h := HG2.out
                  rw [hb0, if_neg (by simp)] at h
                  exact h
                clear hb0 hgt be bl bs
                go_wp2
                go_roundw
                case rel => exact ⟨k + 1, s + 1, rat, seen ++ [(rwho, rtag)], _, ⟨by omega, by go_num, rfl, by omega⟩, HG4.out, HBo.out, HD4.out, HB4.out⟩
                case measure => simp [intOf]; omega
              · have hb51 : badRow ⟨q_w, q_t, q_p, x0, x1, x2, x3, q_f, q_l, q_s, true, q_c, q_v⟩ ⟨rat, rwho, rtag, rco, rva, .slice nA nn nc⟩ seen last = 51 := by
                  rw [HBad.out, if_neg (by rintro (hx | hx | hx); exact h1 hx; exact h2 hx; exact h3 hx.2), if_pos ⟨rfl, h4⟩]
                have HE : Hid (((k : Int), (51 : Int)) = fits7 recs rows) := by
                  have h := HG2.out
                  rw [hb51, if_pos (by decide)] at h
                  exact h
                clear hb51
                rw [decide_eq_false h4] at hnq
                simp only [Bool.not_false] at hnq
                go_wp2
                go_ret2
                exact ⟨by rw [← HE.out]; rfl, HB3.out⟩
          | false =>
            clear h50
            go_upto_region 17 with fail
            have hgd : W3.grownBy W3.drew none := ⟨rfl, rfl, rfl, Nat.le_refl _, fun _ _ _ => rfl⟩
            have HMD := Lib.hid (HM3.out.kept hgd (by simp))
            have hlD := look_seen HMD.out HD.out HKo.out
            rw [if_neg HSn.out] at hlD
            obtain ⟨v0, st, V1, V2, be, bl, bs, bo, bt⟩ := bump_look HMD.out HD.out (by unfold maxLen; omega) HKo.out HSn.out
            unfold okV at hlD be bl
            simp only at hlD be bl
            have kD0 : W3.drew.cell? ⟨wr.heap.size + 1, 0, none⟩ = some (.int .i64 rwho) := k0
            have kD1 : W3.drew.cell? ⟨wr.heap.size + 1, 1, none⟩ = some (.int .i64 rtag) := k1
            have HBo := Lib.hid bo
            have HBt := Lib.hid bt
            clear bo bt
            go_region
            have hgt := HBt.out.grown
            have hml : w.heap.size < wr.heap.size := by
              obtain ⟨es, clock, hb9, _⟩ := HM.out
              exact (Array.getElem?_eq_some_iff.1 hb9).1
            have HI4 := Lib.hid ((HI3.out.grown hgd (by simp)).grown hgt (by simp; omega))
            have HB4 : Hid (Below w.heap.size w V2) := HB3.out.drew.grown hgt HB3.out.size (fun r e => by cases e; exact Nat.le_refl _)
            have t0 : V2.cell? ⟨wr.heap.size, 0, none⟩ = some (.int .i64 rat) := HI4.out.cell 0
            have HD4 := Lib.hid (HD.out.add HMD.out.isMap HKo.out HSn.out)
            have hb0 : badRow ⟨q_w, q_t, q_p, x0, x1, x2, x3, q_f, q_l, q_s, false, q_c, q_v⟩ ⟨rat, rwho, rtag, rco, rva, .slice nA nn nc⟩ seen last = 0 := by
              rw [HBad.out, if_neg (by rintro (hx | hx | hx); exact h1 hx; exact h2 hx; cases hx.1), if_neg (fun e => by cases e.1)]
            have HG4 : Hid (fitsGo7 recs (rows.drop (k + 1)) (seen ++ [(rwho, rtag)]) rat (k + 1) = fits7 recs rows) := by
              have h := HG2.out
              rw [hb0, if_neg (by simp)] at h
              exact h
            clear hb0 hgt be bl bs
            go_wp2
            go_roundw
            case rel => exact ⟨k + 1, s + 1, rat, seen ++ [(rwho, rtag)], _, ⟨by omega, by go_num, rfl, by omega⟩, HG4.out, HBo.out, HD4.out, HB4.out⟩
            case measure => simp [intOf]; omega
    · obtain rfl : k = m := by omega
      have hg := HG.out
      rw [List.drop_of_length_le (by rw [HLen.out]; exact Nat.le_refl _), fitsGo7] at hg
      have HG2 := Lib.hid hg
      have hn63 := HR.out.le
      unfold maxLen at hn63
      have hrl := HR.out.rcLen
      have HRl := Lib.hid hrl
      clear hg hrl
      go_wp2
      go_loopw [90] (fun i wt => ∃ j : Nat, (j ≤ n ∧ i = .int .i64 j) ∧ Hid ((recs.take j).all (fun q => !q.done || decide (q.key ∈ seen)) = true) ∧ Hid (wt.ownsMap Try.prog 69 (plainElem (H := Unit) Try.prog 3) w.heap.size s D) ∧ Hid (Below w.heap.size w wt)) (fun i _ => n - (intOf i).toNat)
      case atStart => exact ⟨0, ⟨by omega, rfl⟩, rfl, HM.out, HB.out⟩
      case round =>
        clear HM HB
        obtain ⟨j, ⟨hj, rfl⟩, HAl, HM, HB⟩ := hrel
        by_cases hlt2 : j < n
        · have hlti : (j : Int) < (n : Int) := by omega
          obtain ⟨bR, oR, q, rfl, hbR, hqj, hcR⟩ := (HR.out.below HB.out).rcAt hlt2
          have HKq := Lib.hid (HRk.out q (List.mem_of_getElem? hqj))
          have HTk : Hid ((recs.take (j + 1)).all (fun q => !q.done || decide (q.key ∈ seen)) = ((recs.take j).all (fun q => !q.done || decide (q.key ∈ seen)) && (!q.done || decide (q.key ∈ seen)))) := by
            show _ = _
            rw [List.take_add_one, hqj]; simp
          have HMem := Lib.hid (List.mem_of_getElem? hqj)
          obtain ⟨q_w, q_t, q_p, x0, x1, x2, x3, q_f, q_l, q_s, q_d, q_c, q_v⟩ := q
          have e0 := hcR 0 _ rfl
          have e1 := hcR 1 _ rfl
          have e2 := hcR 2 _ rfl
          have e3 := hcR 3 _ rfl
          have e4 := hcR 4 _ rfl
          have e5 := hcR 5 _ rfl
          have e6 := hcR 6 _ rfl
          have e7 := hcR 7 _ rfl
          have e8 := hcR 8 _ rfl
          have e9 := hcR 9 _ rfl
          have e10 := hcR 10 _ rfl
          have e11 := hcR 11 _ rfl
          have e12 := hcR 12 _ rfl
          simp only [← Nat.add_assoc, Nat.add_zero] at e0 e1 e2 e3 e4 e5 e6 e7 e8 e9 e10 e11 e12
          clear hcR hqj
          go_upto_region 23 with fail
          obtain ⟨W3, hW3⟩ : ∃ W3, wr.alloc (.cells #[.int .i64 q_w, .int .i64 q_t, .int .i64 q_p, .int .u64 x0, .int .u64 x1, .int .u64 x2, .int .u64 x3, .int .i64 q_f, .int .i64 q_l, .int .i64 q_s, .bool q_d, .int .i64 q_c, .int .u64 q_v] 41) = W3 := ⟨_, rfl⟩
          rw [hW3]
          have HQ3 : Hid (Bk W3 wr.heap.size 41 #[.int .i64 q_w, .int .i64 q_t, .int .i64 q_p, .int .u64 x0, .int .u64 x1, .int .u64 x2, .int .u64 x3, .int .i64 q_f, .int .i64 q_l, .int .i64 q_s, .bool q_d, .int .i64 q_c, .int .u64 q_v]) := by show Bk _ _ _ _; rw [← hW3]; exact Bk.new _ _ _
          have HB3 : Hid (Below w.heap.size w W3) := by show Below _ _ _; rw [← hW3]; exact HB.out.alloc HB.out.size _
          have HM3 : Hid (W3.ownsMap Try.prog 69 (plainElem (H := Unit) Try.prog 3) w.heap.size s D) := by
            show World.ownsMap _ _ _ _ _ _ _
            rw [← hW3]
            exact HM.out.kept (World.grownBy_alloc _ _ none) (by simp)
          clear hW3 e0 e1 e2 e3 e4 e5 e6 e7 e8 e9 e10 e11 e12
          have s0 : W3.cell? ⟨wr.heap.size, 0, none⟩ = some (.int .i64 q_w) := HQ3.out.cell 0
          have s1 : W3.cell? ⟨wr.heap.size, 1, none⟩ = some (.int .i64 q_t) := HQ3.out.cell 1
          have s6 : W3.cell? ⟨wr.heap.size, 10, none⟩ = some (.bool q_d) := HQ3.out.cell 10
          have hlk := look_seen HM3.out HD.out HKq.out
          unfold okV at hlk
          simp only at hlk
          cases q_d with
          | false =>
            go_wp2
            go_roundw
            case rel => exact ⟨j + 1, ⟨by omega, by go_num⟩, by show _ = _; rw [HTk.out, HAl.out]; rfl, HM3.out, HB3.out⟩
            case measure => simp [intOf]; omega
          | true =>
            by_cases hsn : (q_w, q_t) ∈ seen
            · rw [if_pos (show Rc7.key ⟨q_w, q_t, q_p, x0, x1, x2, x3, q_f, q_l, q_s, true, q_c, q_v⟩ ∈ seen from hsn)] at hlk
              have HSn : Hid (decide (Rc7.key ⟨q_w, q_t, q_p, x0, x1, x2, x3, q_f, q_l, q_s, true, q_c, q_v⟩ ∈ seen) = true) := decide_eq_true hsn
              clear hsn
              go_wp2
              go_roundw
              case rel => exact ⟨j + 1, ⟨by omega, by go_num⟩, by show _ = _; rw [HTk.out, HAl.out, HSn.out]; rfl, HM3.out, HB3.out⟩
              case measure => simp [intOf]; omega
            · rw [if_neg (show ¬ Rc7.key ⟨q_w, q_t, q_p, x0, x1, x2, x3, q_f, q_l, q_s, true, q_c, q_v⟩ ∈ seen from hsn)] at hlk
              have HE : Hid (((k : Int), (4 : Int)) = fits7 recs rows) := by
                have h := HG2.out
                rw [if_neg (fun hall => by
                  have h2 := List.all_eq_true.1 hall _ HMem.out
                  have h3 : decide ((q_w, q_t) ∈ seen) = true := by simpa using h2
                  exact hsn (of_decide_eq_true h3))] at h
                exact h
              clear hsn
              go_wp2
              go_ret2
              exact ⟨by rw [← HE.out]; rfl, HB3.out⟩
        · obtain rfl : j = n := by omega
          have HE : Hid (((0 : Int), (0 : Int)) = fits7 recs rows) := by
            have h := HG2.out
            have h2 := HAl.out
            rw [List.take_of_length_le (by rw [HRl.out]; exact Nat.le_refl _)] at h2
            rw [if_pos h2] at h
            exact h
          go_wp2
          go_ret2
          exact ⟨by rw [← HE.out]; rfl, HB.out⟩
end Go.Proofs.Ytjggmimaolddkaa

namespace Go.Proofs.Ytjggmimaolddkaa
open Go.RowKit

/-- The kinds' names, in order. -/
def kindNames : List ByteArray := [⟨#[115, 101, 116]⟩, ⟨#[109, 111, 118, 101]⟩, ⟨#[112, 108, 117, 115]⟩, ⟨#[109, 105, 110, 117, 115]⟩, ⟨#[116, 105, 109, 101, 115]⟩, ⟨#[109, 111, 100, 117, 108, 111]⟩, ⟨#[101, 113, 117, 97, 108]⟩, ⟨#[108, 101, 115, 115]⟩, ⟨#[97, 114, 103]⟩, ⟨#[114, 111, 111, 116]⟩, ⟨#[112, 117, 116, 114, 111, 111, 116]⟩, ⟨#[114, 101, 97, 100]⟩, ⟨#[114, 101, 97, 100, 97, 116]⟩, ⟨#[119, 114, 105, 116, 101]⟩, ⟨#[119, 114, 105, 116, 101, 97, 116]⟩, ⟨#[110, 101, 119]⟩, ⟨#[102, 114, 101, 101]⟩, ⟨#[103, 111]⟩, ⟨#[122, 101, 114, 111]⟩, ⟨#[98, 97, 99, 107]⟩, ⟨#[114, 101, 116, 117, 114, 110]⟩, ⟨#[97, 98, 111, 114, 116]⟩]
/-- The kinds' fields, in order: a, b, c, i. -/
def kindForms : List ByteArray := [⟨#[97, 105]⟩, ⟨#[97, 98]⟩, ⟨#[97, 98, 99]⟩, ⟨#[97, 98, 99]⟩, ⟨#[97, 98, 99]⟩, ⟨#[97, 98, 99]⟩, ⟨#[97, 98, 99]⟩, ⟨#[97, 98, 99]⟩, ⟨#[97, 105]⟩, ⟨#[97, 98]⟩, ⟨#[97, 98]⟩, ⟨#[97, 98, 105]⟩, ⟨#[97, 98, 99]⟩, ⟨#[97, 98, 105]⟩, ⟨#[97, 98, 99]⟩, ⟨#[97]⟩, ⟨#[97]⟩, ⟨#[105]⟩, ⟨#[97, 105]⟩, ⟨#[97, 105]⟩, ⟨#[97]⟩, ⟨#[105]⟩]
def nameOf (n : Int) : ByteArray := if 0 ≤ n ∧ n < 22 then kindNames.getD n.toNat ⟨#[]⟩ else ⟨#[]⟩
def fieldsOf (n : Int) : ByteArray := if 0 ≤ n ∧ n < 22 then kindForms.getD n.toNat ⟨#[]⟩ else ⟨#[]⟩

theorem nameOf_out {n : Int} (h : ¬ (0 ≤ n ∧ n < 22)) : nameOf n = ⟨#[]⟩ := by unfold nameOf; rw [if_neg h]
theorem fieldsOf_out {n : Int} (h : ¬ (0 ≤ n ∧ n < 22)) : fieldsOf n = ⟨#[]⟩ := by unfold fieldsOf; rw [if_neg h]

/-- How many registers a kind has; has it a number? -/
def regsOf (n : Int) : Int :=
  if (2 ≤ n ∧ n ≤ 7) ∨ n = 12 ∨ n = 14 then 3 else if n = 1 ∨ (9 ≤ n ∧ n ≤ 11) ∨ n = 13 then 2
  else if n = 17 ∨ n = 21 ∨ n < 0 ∨ 21 < n then 0 else 1
def immOf (n : Int) : Bool := decide (n = 0 ∨ n = 8 ∨ n = 11 ∨ n = 13 ∨ (17 ≤ n ∧ n ≤ 19) ∨ n = 21)
def fieldB (r : Int) (u : Bool) : Bool := decide (r = 0) || (u && decide (0 < r ∧ r < 16))
def plainB (n a b c m : Int) : Bool :=
  decide (0 ≤ n ∧ n ≤ 21) && fieldB a (decide (0 < regsOf n)) && fieldB b (decide (1 < regsOf n)) && fieldB c (decide (2 < regsOf n)) && (immOf n || decide (m = 0))
end Go.Proofs.Ytjggmimaolddkaa

namespace Go.Proofs.Ytjggmimaolddkaa
open Go.RowKit

theorem other_any (n : Int) (w : World) (h : ¬ (0 ≤ n ∧ n ≤ 10)) :
    Calls Try.prog 106 #[.int .i64 n] w fun e w' => e = .returned (.tuple #[.string (nameOf n), .string (fieldsOf n)]) ∧ w = w' := by
  by_cases hn : 11 ≤ n ∧ n ≤ 21
  · obtain ⟨h1, h2⟩ := hn
    obtain rfl | rfl | rfl | rfl | rfl | rfl | rfl | rfl | rfl | rfl | rfl : n = 11 ∨ n = 12 ∨ n = 13 ∨ n = 14 ∨ n = 15 ∨ n = 16 ∨ n = 17 ∨ n = 18 ∨ n = 19 ∨ n = 20 ∨ n = 21 := by omega
    all_goals
      clear h
      go_enter Try.func106, Try.ntmps106
      go_wp2
      go_ret2
      exact ⟨rfl, rfl⟩
  · rw [nameOf_out (by omega), fieldsOf_out (by omega)]
    have e : ∀ k : Int, 11 ≤ k → k ≤ 21 → (n == k) = false := fun k h1 h2 => beq_eq_false_iff_ne.2 (by omega)
    have e11 := e 11 (by omega) (by omega)
    have e12 := e 12 (by omega) (by omega)
    have e13 := e 13 (by omega) (by omega)
    have e14 := e 14 (by omega) (by omega)
    have e15 := e 15 (by omega) (by omega)
    have e16 := e 16 (by omega) (by omega)
    have e17 := e 17 (by omega) (by omega)
    have e18 := e 18 (by omega) (by omega)
    have e19 := e 19 (by omega) (by omega)
    have e20 := e 20 (by omega) (by omega)
    have e21 := e 21 (by omega) (by omega)
    clear e hn h
    go_enter Try.func106, Try.ntmps106
    go_wp2
    go_ret2
    exact ⟨rfl, rfl⟩

theorem form_any (n : Int) (w : World) :
    Calls Try.prog 105 #[.int .i64 n] w fun e w' => e = .returned (.tuple #[.string (nameOf n), .string (fieldsOf n)]) ∧ w = w' := by
  by_cases hn : 0 ≤ n ∧ n ≤ 10
  · obtain ⟨h1, h2⟩ := hn
    obtain rfl | rfl | rfl | rfl | rfl | rfl | rfl | rfl | rfl | rfl | rfl : n = 0 ∨ n = 1 ∨ n = 2 ∨ n = 3 ∨ n = 4 ∨ n = 5 ∨ n = 6 ∨ n = 7 ∨ n = 8 ∨ n = 9 ∨ n = 10 := by omega
    all_goals
      go_enter Try.func105, Try.ntmps105
      go_wp2
      go_ret2
      exact ⟨rfl, rfl⟩
  · have e : ∀ k : Int, 0 ≤ k → k ≤ 10 → (n == k) = false := fun k h1 h2 => beq_eq_false_iff_ne.2 (by omega)
    have e0 := e 0 (by omega) (by omega)
    have e1 := e 1 (by omega) (by omega)
    have e2 := e 2 (by omega) (by omega)
    have e3 := e 3 (by omega) (by omega)
    have e4 := e 4 (by omega) (by omega)
    have e5 := e 5 (by omega) (by omega)
    have e6 := e 6 (by omega) (by omega)
    have e7 := e 7 (by omega) (by omega)
    have e8 := e 8 (by omega) (by omega)
    have e9 := e 9 (by omega) (by omega)
    have e10 := e 10 (by omega) (by omega)
    have H := other_any n w hn
    have H := Lib.hid H
    clear e hn
    go_enter Try.func105, Try.ntmps105
    go_wp2_with (go_at_call 106; refine H.out.mono ?_; rintro e w' ⟨rfl, rfl⟩)
    go_ret2
    exact ⟨rfl, rfl⟩

theorem name_any (n : Int) (w : World) :
    Calls Try.prog 100 #[.int .i64 n] w fun e w' => e = .returned (.string (nameOf n)) ∧ w = w' := by
  go_enter Try.func100, Try.ntmps100
  go_wp2_with (go_at_call 105; refine (form_any _ _).mono ?_; rintro e w' ⟨rfl, rfl⟩)
  go_ret
  exact ⟨rfl, rfl⟩

theorem field_any (r : Int) (u : Bool) (w : World) :
    Calls Try.prog 101 #[.int .i64 r, .bool u] w fun e w' => e = .returned (.bool (fieldB r u)) ∧ w = w' := by
  go_enter Try.func101, Try.ntmps101
  go_wp2
  all_goals go_ret
  all_goals refine ⟨ret_bool ?_, rfl⟩
  all_goals (cases u <;> rw [Bool.eq_iff_iff] <;> simp_all [fieldB] <;> omega)
end Go.Proofs.Ytjggmimaolddkaa

namespace Go.Proofs.Ytjggmimaolddkaa
open Go.RowKit

def hasL (l : List UInt8) (c : UInt8) : Bool := l.any (· == c)
def othL (l : List UInt8) : Bool := l.any fun c => !(c == 97) && !(c == 98) && !(c == 99)
theorem take_snoc (s : ByteArray) (k : Nat) (h : k < s.size) : s.data.toList.take (k + 1) = s.data.toList.take k ++ [s[k]] := by
  rw [List.take_succ_eq_append_getElem (by simpa using h)]; rfl
theorem hasL_snoc (l : List UInt8) (d c : UInt8) : hasL (l ++ [d]) c = (hasL l c || d == c) := by simp [hasL]
theorem othL_snoc (l : List UInt8) (d : UInt8) : othL (l ++ [d]) = (othL l || (!(d == 97) && !(d == 98) && !(d == 99))) := by simp [othL]
theorem byte_eq (d : UInt8) (k : Nat) (hk : k < 256) : (((d.toNat : Int)) == (k : Int)) = (d == UInt8.ofNat k) := by
  rw [Bool.eq_iff_iff]; simp only [beq_iff_eq]
  constructor
  · intro h
    have h2 : d.toNat = k := by omega
    rw [← h2]; simp
  · intro h
    rw [h]; simp; omega

theorem uses_str (n : Int) (w : World) (s : ByteArray) (hs : fieldsOf n = s) (ha : ∀ i, (h : i < s.size) → (s[i]'h).toNat < 128) :
    Calls Try.prog 99 #[.int .i64 n] w fun e w' => e = .returned (.tuple #[.bool (hasL s.data.toList 97), .bool (hasL s.data.toList 98), .bool (hasL s.data.toList 99), .bool (othL s.data.toList)]) ∧ Below w.heap.size w w' := by
  have H := form_any n w
  rw [hs] at H
  clear hs
  have H := Lib.hid H
  have HA := Lib.hid ha
  clear ha
  go_enter Try.func99, Try.ntmps99
  go_wp2_with (go_at_call 105; refine H.out.mono ?_; rintro e w' ⟨rfl, rfl⟩)
  go_loopw [2, 3, 4, 5] (fun a b c i wr => ∃ p : Nat, p ≤ s.size ∧ wr = w.iter s p ∧ a = .bool (hasL (s.data.toList.take p) 97) ∧ b = .bool (hasL (s.data.toList.take p) 98) ∧ c = .bool (hasL (s.data.toList.take p) 99) ∧ i = .bool (othL (s.data.toList.take p))) (fun _ _ _ _ wr => s.size - wr.iterPos w.heap.size)
  case atStart => exact ⟨0, Nat.zero_le _, rfl, rfl, rfl, rfl, rfl⟩
  case round =>
    obtain ⟨p, hp, rfl, rfl, rfl, rfl, rfl⟩ := hrel
    by_cases hlt : p < s.size
    · have n0 := fun ty => run_next_ascii (P := Try.prog) w s p ty hlt (HA.out p hlt)
      have T := Lib.hid (take_snoc s p hlt)
      generalize hc : s[p]'hlt = c at n0 T
      clear hc
      have e97 := byte_eq c 97 (by omega)
      have e98 := byte_eq c 98 (by omega)
      have e99 := byte_eq c 99 (by omega)
      by_cases h97 : c = 97
      · subst h97
        clear e97 e98 e99
        go_wp2
        go_roundw
        case rel => exact ⟨p + 1, by omega, rfl, by rw [T.out, hasL_snoc]; simp, by rw [T.out, hasL_snoc]; simp, by rw [T.out, hasL_snoc]; simp, by rw [T.out, othL_snoc]; simp⟩
        case measure => simp; omega
      · by_cases h98 : c = 98
        · subst h98
          clear e97 e98 e99 h97
          go_wp2
          go_roundw
          case rel => exact ⟨p + 1, by omega, rfl, by rw [T.out, hasL_snoc]; simp, by rw [T.out, hasL_snoc]; simp, by rw [T.out, hasL_snoc]; simp, by rw [T.out, othL_snoc]; simp⟩
          case measure => simp; omega
        · by_cases h99 : c = 99
          · subst h99
            clear e97 e98 e99 h97 h98
            go_wp2
            go_roundw
            case rel => exact ⟨p + 1, by omega, rfl, by rw [T.out, hasL_snoc]; simp, by rw [T.out, hasL_snoc]; simp, by rw [T.out, hasL_snoc]; simp, by rw [T.out, othL_snoc]; simp⟩
            case measure => simp; omega
          · have f97 : ((c.toNat : Int) == 97) = false := e97.trans (beq_eq_false_iff_ne.2 h97)
            have f98 : ((c.toNat : Int) == 98) = false := e98.trans (beq_eq_false_iff_ne.2 h98)
            have f99 : ((c.toNat : Int) == 99) = false := e99.trans (beq_eq_false_iff_ne.2 h99)
            clear e97 e98 e99
            have H97 := Lib.hid h97
            have H98 := Lib.hid h98
            have H99 := Lib.hid h99
            clear h97 h98 h99
            go_wp2
            go_roundw
            case rel => exact ⟨p + 1, by omega, rfl, by rw [T.out, hasL_snoc]; simp [H97.out], by rw [T.out, hasL_snoc]; simp [H98.out], by rw [T.out, hasL_snoc]; simp [H99.out], by rw [T.out, othL_snoc]; simp [H97.out, H98.out, H99.out]⟩
            case measure => simp; omega
    · have n0 := fun ty => run_next_end (P := Try.prog) w s p ty hlt
      go_wp2
      obtain rfl : p = s.size := by omega
      have ht : s.data.toList.take s.size = s.data.toList := List.take_of_length_le (by simp)
      refine bodyPost_ret (results_tmp4 rfl _ _ _) rfl ?_
      refine ⟨?_, (Below.refl _ _).alloc (Nat.le_refl _) _⟩
      simp [ht]
theorem uses_any (n : Int) (w : World) :
    Calls Try.prog 99 #[.int .i64 n] w fun e w' => e = .returned (.tuple #[.bool (decide (0 < regsOf n)), .bool (decide (1 < regsOf n)), .bool (decide (2 < regsOf n)), .bool (immOf n)]) ∧ Below w.heap.size w w' := by
  by_cases hn : 0 ≤ n ∧ n ≤ 21
  · obtain ⟨h1, h2⟩ := hn
    obtain rfl | rfl | rfl | rfl | rfl | rfl | rfl | rfl | rfl | rfl | rfl | rfl | rfl | rfl | rfl | rfl | rfl | rfl | rfl | rfl | rfl | rfl : n = 0 ∨ n = 1 ∨ n = 2 ∨ n = 3 ∨ n = 4 ∨ n = 5 ∨ n = 6 ∨ n = 7 ∨ n = 8 ∨ n = 9 ∨ n = 10 ∨ n = 11 ∨ n = 12 ∨ n = 13 ∨ n = 14 ∨ n = 15 ∨ n = 16 ∨ n = 17 ∨ n = 18 ∨ n = 19 ∨ n = 20 ∨ n = 21 := by omega
    all_goals exact uses_str _ w _ rfl (by decide)
  · have h := uses_str n w ⟨#[]⟩ (fieldsOf_out (by omega)) (by decide)
    have e1 : regsOf n = 0 := by unfold regsOf; rw [if_neg (by omega), if_neg (by omega), if_pos (by omega)]
    have e2 : immOf n = false := by unfold immOf; exact decide_eq_false (by omega)
    rw [e1, e2]
    exact h
end Go.Proofs.Ytjggmimaolddkaa

namespace Go.Proofs.Ytjggmimaolddkaa
open Go.RowKit

theorem nameOf_ne (n : Int) (h : 0 ≤ n ∧ n ≤ 21) : (nameOf n).toList.isEmpty = false := by
  obtain ⟨h1, h2⟩ := h
  obtain rfl | rfl | rfl | rfl | rfl | rfl | rfl | rfl | rfl | rfl | rfl | rfl | rfl | rfl | rfl | rfl | rfl | rfl | rfl | rfl | rfl | rfl : n = 0 ∨ n = 1 ∨ n = 2 ∨ n = 3 ∨ n = 4 ∨ n = 5 ∨ n = 6 ∨ n = 7 ∨ n = 8 ∨ n = 9 ∨ n = 10 ∨ n = 11 ∨ n = 12 ∨ n = 13 ∨ n = 14 ∨ n = 15 ∨ n = 16 ∨ n = 17 ∨ n = 18 ∨ n = 19 ∨ n = 20 ∨ n = 21 := by omega
  all_goals decide +kernel

theorem plain_any (n a b c m : Int) (w : World) :
    Calls Try.prog 88 #[.agg #[.int .i64 n, .int .i64 a, .int .i64 b, .int .i64 c, .int .u64 m]] w fun e w' => e = .returned (.bool (plainB n a b c m)) ∧ Below w.heap.size w w' := by
  go_enter Try.func88, Try.ntmps88
  go_wp2_with fail
  refine (uses_any _ _).mono ?_
  rintro e w1 ⟨rfl, hb⟩
  obtain ⟨hc, hf⟩ := bcell hb
  have hz : w.heap.size < w1.heap.size := by have := hb.size; simp at this; omega
  have HB := Lib.hid hb
  clear hb
  go_wp2_with fail
  refine (name_any _ _).mono ?_
  rintro e w2 ⟨rfl, rfl⟩
  by_cases hn : 0 ≤ n ∧ n ≤ 21
  · have h1 := nameOf_ne n hn
    have h2 : ¬ (nameOf n).toList = [] := by intro h; rw [h] at h1; simp at h1
    cases hA : fieldB a (decide (0 < regsOf n))
    · have e1 : plainB n a b c m = false := by simp [plainB, hA]
      have E := Lib.hid e1
      clear e1
      go_wp2_with fail
      refine (field_any _ _ _).mono ?_
      rintro e w2 ⟨rfl, rfl⟩
      go_wp2
      go_ret
      exact ⟨ret_bool E.out.symm, ((Below.refl _ _).alloc (Nat.le_refl _) _).trans (HB.out.mono (by simp))⟩
    · cases hB : fieldB b (decide (1 < regsOf n))
      · have e1 : plainB n a b c m = false := by simp [plainB, hB]
        have E := Lib.hid e1
        clear e1
        go_wp2_with fail
        refine (field_any _ _ _).mono ?_
        rintro e w2 ⟨rfl, rfl⟩
        go_wp2_with fail
        refine (field_any _ _ _).mono ?_
        rintro e w2 ⟨rfl, rfl⟩
        go_wp2
        go_ret
        exact ⟨ret_bool E.out.symm, ((Below.refl _ _).alloc (Nat.le_refl _) _).trans (HB.out.mono (by simp))⟩
      · cases hC : fieldB c (decide (2 < regsOf n))
        · have e1 : plainB n a b c m = false := by simp [plainB, hC]
          have E := Lib.hid e1
          clear e1
          go_wp2_with fail
          refine (field_any _ _ _).mono ?_
          rintro e w2 ⟨rfl, rfl⟩
          go_wp2_with fail
          refine (field_any _ _ _).mono ?_
          rintro e w2 ⟨rfl, rfl⟩
          go_wp2_with fail
          refine (field_any _ _ _).mono ?_
          rintro e w2 ⟨rfl, rfl⟩
          go_wp2
          go_ret
          exact ⟨ret_bool E.out.symm, ((Below.refl _ _).alloc (Nat.le_refl _) _).trans (HB.out.mono (by simp))⟩
        · have e1 : plainB n a b c m = (immOf n || decide (m = 0)) := by simp [plainB, hA, hB, hC, hn]
          have E := Lib.hid e1
          clear e1
          cases hI : immOf n
          all_goals
            go_wp2_with fail
            refine (field_any _ _ _).mono ?_
            rintro e w2 ⟨rfl, rfl⟩
            go_wp2_with fail
            refine (field_any _ _ _).mono ?_
            rintro e w2 ⟨rfl, rfl⟩
            go_wp2_with fail
            refine (field_any _ _ _).mono ?_
            rintro e w2 ⟨rfl, rfl⟩
            go_wp2
            go_ret
          · exact ⟨ret_bool (by rw [E.out, hI]; rfl), ((Below.refl _ _).alloc (Nat.le_refl _) _).trans (HB.out.mono (by simp))⟩
          · exact ⟨ret_bool (by rw [E.out, hI]; rfl), ((Below.refl _ _).alloc (Nat.le_refl _) _).trans (HB.out.mono (by simp))⟩
  · rw [nameOf_out (by omega)]
    have e1 : plainB n a b c m = false := by simp [plainB]; omega
    have E := Lib.hid e1
    clear e1
    go_wp2
    go_ret
    exact ⟨ret_bool E.out.symm, ((Below.refl _ _).alloc (Nat.le_refl _) _).trans (HB.out.mono (by simp))⟩

/-- The first kind that bears a name. -/
def ofFind (s : ByteArray) : Option Nat := (List.range 22).find? fun k => (nameOf k).toList == s.toList
theorem ofFind_none {s : ByteArray} (h : ∀ j : Nat, j < 22 → ((nameOf j).toList == s.toList) = false) : ofFind s = none := by
  unfold ofFind
  rw [List.find?_eq_none]
  intro x hx
  have := h x (by simpa using hx)
  simp [this]
theorem ofFind_some {s : ByteArray} {k : Nat} (hk : k < 22) (h : ∀ j : Nat, j < k → ((nameOf j).toList == s.toList) = false) (ht : ((nameOf k).toList == s.toList) = true) : ofFind s = some k := by
  unfold ofFind
  rw [List.find?_range_eq_some]
  exact ⟨ht, by simpa using hk, fun j hj => by simp [h j hj]⟩

end Go.Proofs.Ytjggmimaolddkaa

namespace Go.Proofs.Ytjggmimaolddkaa
open Go.RowKit

theorem regs_any (n : Int) (w : World) :
    Calls Try.prog 102 #[.int .i64 n] w fun e w' => e = .returned (.int .i64 (regsOf n)) ∧ w = w' := by
  go_enter Try.func102, Try.ntmps102
  go_wp2
  all_goals go_ret
  all_goals refine ⟨ret_int ?_, rfl⟩
  all_goals go_tidy
  all_goals (try simp only [beq_iff_eq, beq_eq_false_iff_ne, ne_eq] at *)
  all_goals unfold regsOf
  all_goals (repeat' split)
  all_goals omega
theorem imm_any (n : Int) (w : World) :
    Calls Try.prog 103 #[.int .i64 n] w fun e w' => e = .returned (.bool (immOf n)) ∧ w = w' := by
  go_enter Try.func103, Try.ntmps103
  go_wp2
  all_goals go_ret
  all_goals refine ⟨ret_bool ?_, rfl⟩
  all_goals go_tidy
  all_goals (try simp only [beq_iff_eq, beq_eq_false_iff_ne, ne_eq] at *)
  all_goals (unfold immOf; rw [Bool.eq_iff_iff]; simp)
  all_goals omega
end Go.Proofs.Ytjggmimaolddkaa

namespace Go.Proofs.Ytjggmimaolddkaa
open Go.RowKit
set_option linter.unusedVariables false
set_option linter.unusedSimpArgs false

theorem rplain_at0 (n a b c m : Int) (w : World) (n0 : 0 ≤ n) (n1 : n ≤ 21) (a0 : 0 ≤ a) (a1 : a ≤ 15) (b0 : 0 ≤ b) (b1 : b ≤ 15) (c0 : 0 ≤ c) (c1 : c ≤ 15) (hr : regsOf n = 0) :
    Calls Try.prog 90 #[.agg #[.int .i64 n, .int .i64 a, .int .i64 b, .int .i64 c, .int .u64 m]] w fun e w' => e = .returned (.bool (plainB n a b c m)) ∧ Below w.heap.size w w' := by
  have HE : Hid (plainB n a b c m = ((decide (0 < (0 : Int)) || decide (a = 0)) && (decide (1 < (0 : Int)) || decide (b = 0)) && (decide (2 < (0 : Int)) || decide (c = 0)) && (immOf n || decide (m = 0)))) := by
    show _ = _
    rw [Bool.eq_iff_iff]; simp [plainB, fieldB, hr]
    omega
  go_enter Try.func90, Try.ntmps90
  go_wp2_with fail
  refine (regs_any _ _).mono ?_
  rintro e w1 ⟨rfl, rfl⟩
  rw [hr]
  clear hr
  by_cases ha : a = 0
  · subst ha
    by_cases hb : b = 0
    · subst hb
      by_cases hc : c = 0
      · subst hc
        cases hI : immOf n
        · by_cases hM : m = 0
          · subst hM
            go_wp2_with fail
            refine (imm_any _ _).mono ?_
            rintro e w1 ⟨rfl, rfl⟩
            go_wp2
            go_ret
            exact ⟨ret_bool (by rw [HE.out]; simp [*]), (Below.refl _ _).alloc (Nat.le_refl _) _⟩
          · have hM2 : (m == 0) = false := by simpa using hM
            go_wp2_with fail
            refine (imm_any _ _).mono ?_
            rintro e w1 ⟨rfl, rfl⟩
            go_wp2
            go_ret
            exact ⟨ret_bool (by rw [HE.out]; simp [*]), (Below.refl _ _).alloc (Nat.le_refl _) _⟩
        · skip
          go_wp2_with fail
          refine (imm_any _ _).mono ?_
          rintro e w1 ⟨rfl, rfl⟩
          go_wp2
          go_ret
          exact ⟨ret_bool (by rw [HE.out]; simp [*]), (Below.refl _ _).alloc (Nat.le_refl _) _⟩
      · have hc2 : (c == 0) = false := by simpa using hc
        go_wp2
        go_ret
        exact ⟨ret_bool (by rw [HE.out]; simp [*]), (Below.refl _ _).alloc (Nat.le_refl _) _⟩
    · have hb2 : (b == 0) = false := by simpa using hb
      go_wp2
      go_ret
      exact ⟨ret_bool (by rw [HE.out]; simp [*]), (Below.refl _ _).alloc (Nat.le_refl _) _⟩
  · have ha2 : (a == 0) = false := by simpa using ha
    go_wp2
    go_ret
    exact ⟨ret_bool (by rw [HE.out]; simp [*]), (Below.refl _ _).alloc (Nat.le_refl _) _⟩

theorem rplain_at1 (n a b c m : Int) (w : World) (n0 : 0 ≤ n) (n1 : n ≤ 21) (a0 : 0 ≤ a) (a1 : a ≤ 15) (b0 : 0 ≤ b) (b1 : b ≤ 15) (c0 : 0 ≤ c) (c1 : c ≤ 15) (hr : regsOf n = 1) :
    Calls Try.prog 90 #[.agg #[.int .i64 n, .int .i64 a, .int .i64 b, .int .i64 c, .int .u64 m]] w fun e w' => e = .returned (.bool (plainB n a b c m)) ∧ Below w.heap.size w w' := by
  have HE : Hid (plainB n a b c m = ((decide (0 < (1 : Int)) || decide (a = 0)) && (decide (1 < (1 : Int)) || decide (b = 0)) && (decide (2 < (1 : Int)) || decide (c = 0)) && (immOf n || decide (m = 0)))) := by
    show _ = _
    rw [Bool.eq_iff_iff]; simp [plainB, fieldB, hr]
    omega
  go_enter Try.func90, Try.ntmps90
  go_wp2_with fail
  refine (regs_any _ _).mono ?_
  rintro e w1 ⟨rfl, rfl⟩
  rw [hr]
  clear hr
  by_cases hb : b = 0
  · subst hb
    by_cases hc : c = 0
    · subst hc
      cases hI : immOf n
      · by_cases hM : m = 0
        · subst hM
          go_wp2_with fail
          refine (imm_any _ _).mono ?_
          rintro e w1 ⟨rfl, rfl⟩
          go_wp2
          go_ret
          exact ⟨ret_bool (by rw [HE.out]; simp [*]), (Below.refl _ _).alloc (Nat.le_refl _) _⟩
        · have hM2 : (m == 0) = false := by simpa using hM
          go_wp2_with fail
          refine (imm_any _ _).mono ?_
          rintro e w1 ⟨rfl, rfl⟩
          go_wp2
          go_ret
          exact ⟨ret_bool (by rw [HE.out]; simp [*]), (Below.refl _ _).alloc (Nat.le_refl _) _⟩
      · skip
        go_wp2_with fail
        refine (imm_any _ _).mono ?_
        rintro e w1 ⟨rfl, rfl⟩
        go_wp2
        go_ret
        exact ⟨ret_bool (by rw [HE.out]; simp [*]), (Below.refl _ _).alloc (Nat.le_refl _) _⟩
    · have hc2 : (c == 0) = false := by simpa using hc
      go_wp2
      go_ret
      exact ⟨ret_bool (by rw [HE.out]; simp [*]), (Below.refl _ _).alloc (Nat.le_refl _) _⟩
  · have hb2 : (b == 0) = false := by simpa using hb
    go_wp2
    go_ret
    exact ⟨ret_bool (by rw [HE.out]; simp [*]), (Below.refl _ _).alloc (Nat.le_refl _) _⟩

theorem rplain_at2 (n a b c m : Int) (w : World) (n0 : 0 ≤ n) (n1 : n ≤ 21) (a0 : 0 ≤ a) (a1 : a ≤ 15) (b0 : 0 ≤ b) (b1 : b ≤ 15) (c0 : 0 ≤ c) (c1 : c ≤ 15) (hr : regsOf n = 2) :
    Calls Try.prog 90 #[.agg #[.int .i64 n, .int .i64 a, .int .i64 b, .int .i64 c, .int .u64 m]] w fun e w' => e = .returned (.bool (plainB n a b c m)) ∧ Below w.heap.size w w' := by
  have HE : Hid (plainB n a b c m = ((decide (0 < (2 : Int)) || decide (a = 0)) && (decide (1 < (2 : Int)) || decide (b = 0)) && (decide (2 < (2 : Int)) || decide (c = 0)) && (immOf n || decide (m = 0)))) := by
    show _ = _
    rw [Bool.eq_iff_iff]; simp [plainB, fieldB, hr]
    omega
  go_enter Try.func90, Try.ntmps90
  go_wp2_with fail
  refine (regs_any _ _).mono ?_
  rintro e w1 ⟨rfl, rfl⟩
  rw [hr]
  clear hr
  by_cases hc : c = 0
  · subst hc
    cases hI : immOf n
    · by_cases hM : m = 0
      · subst hM
        go_wp2_with fail
        refine (imm_any _ _).mono ?_
        rintro e w1 ⟨rfl, rfl⟩
        go_wp2
        go_ret
        exact ⟨ret_bool (by rw [HE.out]; simp [*]), (Below.refl _ _).alloc (Nat.le_refl _) _⟩
      · have hM2 : (m == 0) = false := by simpa using hM
        go_wp2_with fail
        refine (imm_any _ _).mono ?_
        rintro e w1 ⟨rfl, rfl⟩
        go_wp2
        go_ret
        exact ⟨ret_bool (by rw [HE.out]; simp [*]), (Below.refl _ _).alloc (Nat.le_refl _) _⟩
    · skip
      go_wp2_with fail
      refine (imm_any _ _).mono ?_
      rintro e w1 ⟨rfl, rfl⟩
      go_wp2
      go_ret
      exact ⟨ret_bool (by rw [HE.out]; simp [*]), (Below.refl _ _).alloc (Nat.le_refl _) _⟩
  · have hc2 : (c == 0) = false := by simpa using hc
    go_wp2
    go_ret
    exact ⟨ret_bool (by rw [HE.out]; simp [*]), (Below.refl _ _).alloc (Nat.le_refl _) _⟩

theorem rplain_at3 (n a b c m : Int) (w : World) (n0 : 0 ≤ n) (n1 : n ≤ 21) (a0 : 0 ≤ a) (a1 : a ≤ 15) (b0 : 0 ≤ b) (b1 : b ≤ 15) (c0 : 0 ≤ c) (c1 : c ≤ 15) (hr : regsOf n = 3) :
    Calls Try.prog 90 #[.agg #[.int .i64 n, .int .i64 a, .int .i64 b, .int .i64 c, .int .u64 m]] w fun e w' => e = .returned (.bool (plainB n a b c m)) ∧ Below w.heap.size w w' := by
  have HE : Hid (plainB n a b c m = ((decide (0 < (3 : Int)) || decide (a = 0)) && (decide (1 < (3 : Int)) || decide (b = 0)) && (decide (2 < (3 : Int)) || decide (c = 0)) && (immOf n || decide (m = 0)))) := by
    show _ = _
    rw [Bool.eq_iff_iff]; simp [plainB, fieldB, hr]
    omega
  go_enter Try.func90, Try.ntmps90
  go_wp2_with fail
  refine (regs_any _ _).mono ?_
  rintro e w1 ⟨rfl, rfl⟩
  rw [hr]
  clear hr
  cases hI : immOf n
  · by_cases hM : m = 0
    · subst hM
      go_wp2_with fail
      refine (imm_any _ _).mono ?_
      rintro e w1 ⟨rfl, rfl⟩
      go_wp2
      go_ret
      exact ⟨ret_bool (by rw [HE.out]; simp [*]), (Below.refl _ _).alloc (Nat.le_refl _) _⟩
    · have hM2 : (m == 0) = false := by simpa using hM
      go_wp2_with fail
      refine (imm_any _ _).mono ?_
      rintro e w1 ⟨rfl, rfl⟩
      go_wp2
      go_ret
      exact ⟨ret_bool (by rw [HE.out]; simp [*]), (Below.refl _ _).alloc (Nat.le_refl _) _⟩
  · skip
    go_wp2_with fail
    refine (imm_any _ _).mono ?_
    rintro e w1 ⟨rfl, rfl⟩
    go_wp2
    go_ret
    exact ⟨ret_bool (by rw [HE.out]; simp [*]), (Below.refl _ _).alloc (Nat.le_refl _) _⟩

set_option maxHeartbeats 4000000 in
theorem rplain_any (n a b c m : Int) (w : World) :
    Calls Try.prog 90 #[.agg #[.int .i64 n, .int .i64 a, .int .i64 b, .int .i64 c, .int .u64 m]] w fun e w' => e = .returned (.bool (plainB n a b c m)) ∧ Below w.heap.size w w' := by
  by_cases h : n < 0
  · have E : Hid (plainB n a b c m = false) := by
      show _ = _
      rw [← Bool.not_eq_true]
      intro h
      simp [plainB, fieldB] at h
      omega
    go_enter Try.func90, Try.ntmps90
    go_wp2
    go_ret
    exact ⟨ret_bool E.out.symm, (Below.refl _ _).alloc (Nat.le_refl _) _⟩
  have gnlt0 : 0 ≤ n := by omega
  clear h
  by_cases h : 21 < n
  · have E : Hid (plainB n a b c m = false) := by
      show _ = _
      rw [← Bool.not_eq_true]
      intro h
      simp [plainB, fieldB] at h
      omega
    go_enter Try.func90, Try.ntmps90
    go_wp2
    go_ret
    exact ⟨ret_bool E.out.symm, (Below.refl _ _).alloc (Nat.le_refl _) _⟩
  have g21ltn : n ≤ 21 := by omega
  clear h
  by_cases h : a < 0
  · have E : Hid (plainB n a b c m = false) := by
      show _ = _
      rw [← Bool.not_eq_true]
      intro h
      simp [plainB, fieldB] at h
      omega
    go_enter Try.func90, Try.ntmps90
    go_wp2
    go_ret
    exact ⟨ret_bool E.out.symm, (Below.refl _ _).alloc (Nat.le_refl _) _⟩
  have galt0 : 0 ≤ a := by omega
  clear h
  by_cases h : 15 < a
  · have E : Hid (plainB n a b c m = false) := by
      show _ = _
      rw [← Bool.not_eq_true]
      intro h
      simp [plainB, fieldB] at h
      omega
    go_enter Try.func90, Try.ntmps90
    go_wp2
    go_ret
    exact ⟨ret_bool E.out.symm, (Below.refl _ _).alloc (Nat.le_refl _) _⟩
  have g15lta : a ≤ 15 := by omega
  clear h
  by_cases h : b < 0
  · have E : Hid (plainB n a b c m = false) := by
      show _ = _
      rw [← Bool.not_eq_true]
      intro h
      simp [plainB, fieldB] at h
      omega
    go_enter Try.func90, Try.ntmps90
    go_wp2
    go_ret
    exact ⟨ret_bool E.out.symm, (Below.refl _ _).alloc (Nat.le_refl _) _⟩
  have gblt0 : 0 ≤ b := by omega
  clear h
  by_cases h : 15 < b
  · have E : Hid (plainB n a b c m = false) := by
      show _ = _
      rw [← Bool.not_eq_true]
      intro h
      simp [plainB, fieldB] at h
      omega
    go_enter Try.func90, Try.ntmps90
    go_wp2
    go_ret
    exact ⟨ret_bool E.out.symm, (Below.refl _ _).alloc (Nat.le_refl _) _⟩
  have g15ltb : b ≤ 15 := by omega
  clear h
  by_cases h : c < 0
  · have E : Hid (plainB n a b c m = false) := by
      show _ = _
      rw [← Bool.not_eq_true]
      intro h
      simp [plainB, fieldB] at h
      omega
    go_enter Try.func90, Try.ntmps90
    go_wp2
    go_ret
    exact ⟨ret_bool E.out.symm, (Below.refl _ _).alloc (Nat.le_refl _) _⟩
  have gclt0 : 0 ≤ c := by omega
  clear h
  by_cases h : 15 < c
  · have E : Hid (plainB n a b c m = false) := by
      show _ = _
      rw [← Bool.not_eq_true]
      intro h
      simp [plainB, fieldB] at h
      omega
    go_enter Try.func90, Try.ntmps90
    go_wp2
    go_ret
    exact ⟨ret_bool E.out.symm, (Below.refl _ _).alloc (Nat.le_refl _) _⟩
  have g15ltc : c ≤ 15 := by omega
  clear h
  have r0 : regsOf n = 0 ∨ regsOf n = 1 ∨ regsOf n = 2 ∨ regsOf n = 3 := by unfold regsOf; (repeat' split) <;> omega
  rcases r0 with h | h | h | h
  · exact rplain_at0 n a b c m w (by omega) (by omega) (by omega) (by omega) (by omega) (by omega) (by omega) (by omega) h
  · exact rplain_at1 n a b c m w (by omega) (by omega) (by omega) (by omega) (by omega) (by omega) (by omega) (by omega) h
  · exact rplain_at2 n a b c m w (by omega) (by omega) (by omega) (by omega) (by omega) (by omega) (by omega) (by omega) h
  · exact rplain_at3 n a b c m w (by omega) (by omega) (by omega) (by omega) (by omega) (by omega) (by omega) (by omega) h
end Go.Proofs.Ytjggmimaolddkaa

namespace Go.Proofs.Ytjggmimaolddkaa
open Go.RowKit
set_option linter.unusedVariables false

def Ins.plain (i : Ins) : Bool := plainB i.op i.a i.b i.c i.imm

end Go.Proofs.Ytjggmimaolddkaa

namespace Go.Proofs.Ytjggmimaolddkaa
open Go.RowKit
set_option linter.unusedVariables false

/-- What is wrong with an instruction at place k of N (its number; 0: nothing). -/
def oneE (N k : Nat) (i : Ins) : Int :=
  if i.plain = false then 30
  else if i.op = 8 then (if 4 ≤ i.imm then 1 else 0)
  else if i.op = 11 ∨ i.op = 13 then (if 8 ≤ i.imm then 1 else 0)
  else if i.op = 21 then (if i.imm < 1 ∨ 255 < i.imm then 1 else 0)
  else if i.op = 17 ∨ i.op = 18 then (if i.imm ≤ k ∨ N ≤ i.imm then 24 else 0)
  else if i.op = 19 then (if (k : Int) < i.imm then 24 else 0)
  else 0
def endsB (op : Int) : Bool := decide (op = 20 ∨ op = 21)

theorem ends_any (op : Int) (w : World) : Calls Try.prog 65 #[.int .i64 op] w fun e w' => e = .returned (.bool (endsB op)) ∧ w = w' := by
  go_enter Try.func65, Try.ntmps65
  go_wp2
  all_goals go_ret
  all_goals refine ⟨ret_bool ?_, rfl⟩
  all_goals (rw [Bool.eq_iff_iff]; simp_all [endsB])

theorem goes_any (op : Int) (w : World) : Calls Try.prog 91 #[.int .i64 op] w fun e w' => e = .returned (.bool (decide (17 ≤ op ∧ op ≤ 19))) ∧ w = w' := by
  go_enter Try.func91, Try.ntmps91
  go_wp2
  all_goals go_ret
  all_goals refine ⟨ret_bool ?_, rfl⟩
  all_goals (rw [Bool.eq_iff_iff]; simp <;> omega)

theorem forth_any (op x y : Int) (w : World) : Calls Try.prog 92 #[.int .i64 op, .int .i64 x, .int .i64 y] w fun e w' => e = .returned (.bool (decide (if op = 19 then y ≤ x else x < y))) ∧ w = w' := by
  by_cases h : op = 19
  · subst h
    by_cases hxy : y ≤ x
    all_goals
      go_enter Try.func92, Try.ntmps92
      go_wp2
      go_ret
      refine ⟨ret_bool ?_, rfl⟩
      simp [hxy]
  · have h1 : (op == 19) = false := by simpa using h
    have h2 : (op != 19) = true := by simpa using h
    have HH := Lib.hid h
    clear h
    go_enter Try.func92, Try.ntmps92
    go_wp2
    all_goals go_ret
    all_goals refine ⟨ret_bool ?_, rfl⟩
    all_goals (first | rfl | (rw [Bool.eq_iff_iff]; first | done | simp [HH.out]) | simp [HH.out])
theorem forth_t (op x y : Int) (w : World) (h : if op = 19 then y ≤ x else x < y) : Calls Try.prog 92 #[.int .i64 op, .int .i64 x, .int .i64 y] w fun e w' => e = .returned (.bool true) ∧ w = w' := by
  have := forth_any op x y w
  rwa [decide_eq_true h] at this
theorem forth_f (op x y : Int) (w : World) (h : ¬ if op = 19 then y ≤ x else x < y) : Calls Try.prog 92 #[.int .i64 op, .int .i64 x, .int .i64 y] w fun e w' => e = .returned (.bool false) ∧ w = w' := by
  have := forth_any op x y w
  rwa [decide_eq_false h] at this
end Go.Proofs.Ytjggmimaolddkaa

namespace Go.Proofs.Ytjggmimaolddkaa
open Go.RowKit
set_option linter.unusedVariables false

set_option maxHeartbeats 4000000 in
theorem one_any (l : List Ins) (A : Option Addr) (n c : Nat) (w : World) (hr : RdI w w.heap.size A n l) (k : Nat) (hk : k < n) (i : Ins) (hi : l[k]? = some i) (hok : i.Ok) :
    Calls Try.prog 64 #[.slice A n c, .int .i64 k] w fun e w' => e = .returned (.int .i64 (oneE n k i)) ∧ Below w.heap.size w w' := by
  have h63 := hr.le
  unfold maxLen at h63
  obtain ⟨b0, o0, i', rfl, hbB, hi', c0, c1, c2, c3, c4⟩ := hr.insAt hk
  rw [hi] at hi'
  obtain rfl : i = i' := by simpa using hi'
  obtain ⟨op, a, b, cc, m⟩ := i
  obtain ⟨m0, m1⟩ := hok.imm
  simp only at c0 c1 c2 c3 c4 m0 m1
  clear hr hi hi' hok
  go_enter Try.func64, Try.ntmps64
  go_wp2_with fail
  refine (plain_any _ _ _ _ _ _).mono ?_
  rintro e w1 ⟨rfl, hb1⟩
  have K1 := (Bk.new w 62 #[.int .i64 op, .int .i64 a, .int .i64 b, .int .i64 cc, .int .u64 m]).below hb1 (by simp)
  have HB := Lib.hid (((Below.refl w.heap.size w).alloc (Nat.le_refl _) _).trans (hb1.mono (by simp)))
  have e0 : w1.cell? ⟨w.heap.size, 0, none⟩ = some (.int .i64 op) := K1.cell 0
  have e4 : w1.cell? ⟨w.heap.size, 4, none⟩ = some (.int .u64 m) := K1.cell 4
  clear hb1 K1
  cases hp : plainB op a b cc m
  · have E : Hid (oneE n k ⟨op, a, b, cc, m⟩ = 30) := by show _ = _; simp [oneE, Ins.plain, hp]
    go_wp2
    go_ret
    exact ⟨ret_int E.out.symm, HB.out⟩
  · have H : (op = 8 ∧ (m < 4) ∧ (True) ∧ Hid (oneE n k ⟨op, a, b, cc, m⟩ = 0)) ∨
      (op = 8 ∧ (4 ≤ m) ∧ (True) ∧ Hid (oneE n k ⟨op, a, b, cc, m⟩ = 1)) ∨
      (op = 11 ∧ (m < 8) ∧ (True) ∧ Hid (oneE n k ⟨op, a, b, cc, m⟩ = 0)) ∨
      (op = 11 ∧ (8 ≤ m) ∧ (True) ∧ Hid (oneE n k ⟨op, a, b, cc, m⟩ = 1)) ∨
      (op = 13 ∧ (m < 8) ∧ (True) ∧ Hid (oneE n k ⟨op, a, b, cc, m⟩ = 0)) ∨
      (op = 13 ∧ (8 ≤ m) ∧ (True) ∧ Hid (oneE n k ⟨op, a, b, cc, m⟩ = 1)) ∨
      (op = 21 ∧ (m < 1) ∧ (True) ∧ Hid (oneE n k ⟨op, a, b, cc, m⟩ = 1)) ∨
      (op = 21 ∧ (1 ≤ m) ∧ (m ≤ 255) ∧ Hid (oneE n k ⟨op, a, b, cc, m⟩ = 0)) ∨
      (op = 21 ∧ (1 ≤ m) ∧ (255 < m) ∧ Hid (oneE n k ⟨op, a, b, cc, m⟩ = 1)) ∨
      (op = 17 ∧ (m ≤ k) ∧ (True) ∧ Hid (oneE n k ⟨op, a, b, cc, m⟩ = 24)) ∨
      (op = 17 ∧ ((k : Int) < m) ∧ ((n : Int) ≤ m) ∧ Hid (oneE n k ⟨op, a, b, cc, m⟩ = 24)) ∨
      (op = 17 ∧ ((k : Int) < m) ∧ (m < n) ∧ Hid (oneE n k ⟨op, a, b, cc, m⟩ = 0)) ∨
      (op = 18 ∧ (m ≤ k) ∧ (True) ∧ Hid (oneE n k ⟨op, a, b, cc, m⟩ = 24)) ∨
      (op = 18 ∧ ((k : Int) < m) ∧ ((n : Int) ≤ m) ∧ Hid (oneE n k ⟨op, a, b, cc, m⟩ = 24)) ∨
      (op = 18 ∧ ((k : Int) < m) ∧ (m < n) ∧ Hid (oneE n k ⟨op, a, b, cc, m⟩ = 0)) ∨
      (op = 19 ∧ ((k : Int) < m) ∧ ((n : Int) ≤ m) ∧ Hid (oneE n k ⟨op, a, b, cc, m⟩ = 24)) ∨
      (op = 19 ∧ ((k : Int) < m) ∧ (m < n) ∧ Hid (oneE n k ⟨op, a, b, cc, m⟩ = 24)) ∨
      (op = 19 ∧ (m ≤ k) ∧ (True) ∧ Hid (oneE n k ⟨op, a, b, cc, m⟩ = 0)) ∨
      (op ≠ 8 ∧ op ≠ 11 ∧ op ≠ 13 ∧ op ≠ 21 ∧ op ≠ 17 ∧ op ≠ 18 ∧ op ≠ 19 ∧ Hid (oneE n k ⟨op, a, b, cc, m⟩ = 0)) := by
      have e : oneE n k ⟨op, a, b, cc, m⟩ = (if op = 8 then (if 4 ≤ m then 1 else 0) else if op = 11 ∨ op = 13 then (if 8 ≤ m then 1 else 0) else if op = 21 then (if m < 1 ∨ 255 < m then 1 else 0)
          else if op = 17 ∨ op = 18 then (if m ≤ k ∨ n ≤ m then 24 else 0) else if op = 19 then (if (k : Int) < m then 24 else 0) else 0) := by simp [oneE, Ins.plain, hp]
      unfold Hid
      rw [e]
      clear e c0 c1 c2 c3 c4 e0 e4 hp HB
      by_cases q1 : op = 8
      · subst q1; simp; omega
      by_cases q2 : op = 11
      · subst q2; simp; omega
      by_cases q3 : op = 13
      · subst q3; simp; omega
      by_cases q4 : op = 21
      · subst q4; simp; omega
      by_cases q5 : op = 17
      · subst q5; simp; omega
      by_cases q6 : op = 18
      · subst q6; simp; omega
      by_cases q7 : op = 19
      · subst q7; simp; omega
      simp [q1, q2, q3, q4, q5, q6, q7]
    rcases H with ⟨rfl, h1, h2, E⟩ | ⟨rfl, h1, h2, E⟩ | ⟨rfl, h1, h2, E⟩ | ⟨rfl, h1, h2, E⟩ | ⟨rfl, h1, h2, E⟩ | ⟨rfl, h1, h2, E⟩ | ⟨rfl, h1, h2, E⟩ | ⟨rfl, h1, h2, E⟩ | ⟨rfl, h1, h2, E⟩ | ⟨rfl, h1, h2, E⟩ | ⟨rfl, h1, h2, E⟩ | ⟨rfl, h1, h2, E⟩ | ⟨rfl, h1, h2, E⟩ | ⟨rfl, h1, h2, E⟩ | ⟨rfl, h1, h2, E⟩ | ⟨rfl, h1, h2, E⟩ | ⟨rfl, h1, h2, E⟩ | ⟨rfl, h1, h2, E⟩ | ⟨o1, o2, o3, o4, o5, o6, o7, E⟩
    rotate_right
    · have f1 : (op == 8) = false := by simpa using o1
      have f2 : (op == 11) = false := by simpa using o2
      have f3 : (op == 13) = false := by simpa using o3
      have f4 : (op == 21) = false := by simpa using o4
      have f5 : (op == 17) = false := by simpa using o5
      have f6 : (op == 18) = false := by simpa using o6
      have f7 : (op == 19) = false := by simpa using o7
      clear o1 o2 o3 o4 o5 o6 o7
      go_wp2
      go_ret
      exact ⟨ret_int E.out.symm, HB.out⟩
    all_goals
      clear hp
      go_wp2
      go_ret
      exact ⟨ret_int E.out.symm, HB.out⟩
end Go.Proofs.Ytjggmimaolddkaa

namespace Go.Proofs.Ytjggmimaolddkaa
open Go.RowKit
set_option linter.unusedVariables false

set_option maxHeartbeats 4000000 in
theorem rone_any (l : List Ins) (A : Option Addr) (n c : Nat) (w : World) (hr : RdI w w.heap.size A n l) (k : Nat) (hk : k < n) (i : Ins) (hi : l[k]? = some i) (hok : i.Ok) :
    Calls Try.prog 69 #[.slice A n c, .int .i64 k] w fun e w' => e = .returned (.int .i64 (oneE n k i)) ∧ Below w.heap.size w w' := by
  have h63 := hr.le
  unfold maxLen at h63
  obtain ⟨b0, o0, i', rfl, hbB, hi', c0, c1, c2, c3, c4⟩ := hr.insAt hk
  rw [hi] at hi'
  obtain rfl : i = i' := by simpa using hi'
  obtain ⟨op, a, b, cc, m⟩ := i
  obtain ⟨m0, m1⟩ := hok.imm
  simp only at c0 c1 c2 c3 c4 m0 m1
  clear hr hi hi' hok
  go_enter Try.func69, Try.ntmps69
  go_wp2_with fail
  refine (rplain_any _ _ _ _ _ _).mono ?_
  rintro e w1 ⟨rfl, hb1⟩
  have K1 := (Bk.new w 62 #[.int .i64 op, .int .i64 a, .int .i64 b, .int .i64 cc, .int .u64 m]).below hb1 (by simp)
  have HB := Lib.hid (((Below.refl w.heap.size w).alloc (Nat.le_refl _) _).trans (hb1.mono (by simp)))
  have e0 : w1.cell? ⟨w.heap.size, 0, none⟩ = some (.int .i64 op) := K1.cell 0
  have e4 : w1.cell? ⟨w.heap.size, 4, none⟩ = some (.int .u64 m) := K1.cell 4
  clear hb1 K1
  cases hp : plainB op a b cc m
  · have E : Hid (oneE n k ⟨op, a, b, cc, m⟩ = 30) := by show _ = _; simp [oneE, Ins.plain, hp]
    go_wp2
    go_ret
    exact ⟨ret_int E.out.symm, HB.out⟩
  · have H : (op = 8 ∧ (m < 4) ∧ (True) ∧ Hid (oneE n k ⟨op, a, b, cc, m⟩ = 0)) ∨
      (op = 8 ∧ (4 ≤ m) ∧ (True) ∧ Hid (oneE n k ⟨op, a, b, cc, m⟩ = 1)) ∨
      (op = 11 ∧ (m < 8) ∧ (True) ∧ Hid (oneE n k ⟨op, a, b, cc, m⟩ = 0)) ∨
      (op = 11 ∧ (8 ≤ m) ∧ (True) ∧ Hid (oneE n k ⟨op, a, b, cc, m⟩ = 1)) ∨
      (op = 13 ∧ (m < 8) ∧ (True) ∧ Hid (oneE n k ⟨op, a, b, cc, m⟩ = 0)) ∨
      (op = 13 ∧ (8 ≤ m) ∧ (True) ∧ Hid (oneE n k ⟨op, a, b, cc, m⟩ = 1)) ∨
      (op = 21 ∧ (m < 1) ∧ (True) ∧ Hid (oneE n k ⟨op, a, b, cc, m⟩ = 1)) ∨
      (op = 21 ∧ (1 ≤ m) ∧ (m ≤ 255) ∧ Hid (oneE n k ⟨op, a, b, cc, m⟩ = 0)) ∨
      (op = 21 ∧ (1 ≤ m) ∧ (255 < m) ∧ Hid (oneE n k ⟨op, a, b, cc, m⟩ = 1)) ∨
      (op = 17 ∧ (m ≤ k) ∧ (True) ∧ Hid (oneE n k ⟨op, a, b, cc, m⟩ = 24)) ∨
      (op = 17 ∧ ((k : Int) < m) ∧ ((n : Int) ≤ m) ∧ Hid (oneE n k ⟨op, a, b, cc, m⟩ = 24)) ∨
      (op = 17 ∧ ((k : Int) < m) ∧ (m < n) ∧ Hid (oneE n k ⟨op, a, b, cc, m⟩ = 0)) ∨
      (op = 18 ∧ (m ≤ k) ∧ (True) ∧ Hid (oneE n k ⟨op, a, b, cc, m⟩ = 24)) ∨
      (op = 18 ∧ ((k : Int) < m) ∧ ((n : Int) ≤ m) ∧ Hid (oneE n k ⟨op, a, b, cc, m⟩ = 24)) ∨
      (op = 18 ∧ ((k : Int) < m) ∧ (m < n) ∧ Hid (oneE n k ⟨op, a, b, cc, m⟩ = 0)) ∨
      (op = 19 ∧ ((k : Int) < m) ∧ ((n : Int) ≤ m) ∧ Hid (oneE n k ⟨op, a, b, cc, m⟩ = 24)) ∨
      (op = 19 ∧ ((k : Int) < m) ∧ (m < n) ∧ Hid (oneE n k ⟨op, a, b, cc, m⟩ = 24)) ∨
      (op = 19 ∧ (m ≤ k) ∧ (True) ∧ Hid (oneE n k ⟨op, a, b, cc, m⟩ = 0)) ∨
      (op ≠ 8 ∧ op ≠ 11 ∧ op ≠ 13 ∧ op ≠ 21 ∧ op ≠ 17 ∧ op ≠ 18 ∧ op ≠ 19 ∧ Hid (oneE n k ⟨op, a, b, cc, m⟩ = 0)) := by
      have e : oneE n k ⟨op, a, b, cc, m⟩ = (if op = 8 then (if 4 ≤ m then 1 else 0) else if op = 11 ∨ op = 13 then (if 8 ≤ m then 1 else 0) else if op = 21 then (if m < 1 ∨ 255 < m then 1 else 0)
          else if op = 17 ∨ op = 18 then (if m ≤ k ∨ n ≤ m then 24 else 0) else if op = 19 then (if (k : Int) < m then 24 else 0) else 0) := by simp [oneE, Ins.plain, hp]
      unfold Hid
      rw [e]
      clear e c0 c1 c2 c3 c4 e0 e4 hp HB
      by_cases q1 : op = 8
      · subst q1; simp; omega
      by_cases q2 : op = 11
      · subst q2; simp; omega
      by_cases q3 : op = 13
      · subst q3; simp; omega
      by_cases q4 : op = 21
      · subst q4; simp; omega
      by_cases q5 : op = 17
      · subst q5; simp; omega
      by_cases q6 : op = 18
      · subst q6; simp; omega
      by_cases q7 : op = 19
      · subst q7; simp; omega
      simp [q1, q2, q3, q4, q5, q6, q7]
    rcases H with ⟨rfl, h1, h2, E⟩ | ⟨rfl, h1, h2, E⟩ | ⟨rfl, h1, h2, E⟩ | ⟨rfl, h1, h2, E⟩ | ⟨rfl, h1, h2, E⟩ | ⟨rfl, h1, h2, E⟩ | ⟨rfl, h1, h2, E⟩ | ⟨rfl, h1, h2, E⟩ | ⟨rfl, h1, h2, E⟩ | ⟨rfl, h1, h2, E⟩ | ⟨rfl, h1, h2, E⟩ | ⟨rfl, h1, h2, E⟩ | ⟨rfl, h1, h2, E⟩ | ⟨rfl, h1, h2, E⟩ | ⟨rfl, h1, h2, E⟩ | ⟨rfl, h1, h2, E⟩ | ⟨rfl, h1, h2, E⟩ | ⟨rfl, h1, h2, E⟩ | ⟨o1, o2, o3, o4, o5, o6, o7, E⟩
    rotate_right
    · have f1 : (op == 8) = false := by simpa using o1
      have f2 : (op == 11) = false := by simpa using o2
      have f3 : (op == 13) = false := by simpa using o3
      have f4 : (op == 21) = false := by simpa using o4
      have f5 : ¬ (17 ≤ op ∧ op ≤ 19) := by omega
      clear o1 o2 o3 o4 o5 o6 o7
      go_wp2_with fail
      refine (goes_any _ _).mono ?_
      rintro e w2 ⟨rfl, rfl⟩
      rw [decide_eq_false f5]
      go_wp2
      go_ret
      exact ⟨ret_int E.out.symm, HB.out⟩
    all_goals
      clear hp
      have f9 : (m == 0) = decide (m = 0) := by rw [Bool.eq_iff_iff]; simp
      first
        | (have g9 : ¬ (m = 0) := by omega
           rw [decide_eq_false g9] at f9)
        | (have g9 : m = 0 := by omega
           rw [decide_eq_true g9] at f9
           clear g9)
        | clear f9
      go_wp2_with (first
        | (go_at_call 91; refine (goes_any _ _).mono ?_; rintro e w2 ⟨rfl, rfl⟩)
        | (go_at_call 92; refine (forth_any _ _ _ _).mono ?_; rintro e w2 ⟨rfl, rfl⟩))
      all_goals first
        | (go_ret
           exact ⟨ret_int E.out.symm, HB.out⟩)
        | (rename_i h0
           exfalso
           simp at h0
           omega)
end Go.Proofs.Ytjggmimaolddkaa
