import Derived.Test.YtjggmimaolddkaaOrAA
import Derived.WideKeyEntry
import Derived.StillTailTactics
import Derived.BigQuiet
import Derived.Deep.Cut
import Derived.WalkKit
import Derived.Lib.Hide
namespace Go.Proofs.Ytjggmimaolddkaa
open Go.RowKit Go.Maps Go.WideMaps
set_option linter.unusedVariables false
theorem o_setBlock_twice (w : World) (b : Nat) (x y : Obj) : Go.ChangeMaps.setBlock (Go.ChangeMaps.setBlock w b x) b y = Go.ChangeMaps.setBlock w b y := by
 unfold Go.ChangeMaps.setBlock
 simp
theorem bump_seen {w : World} {ma n : Nat} {D : DataW Unit} {seen : List (Int × Int)} (h : w.ownsMap Try.prog 69 (plainElem (H := Unit) Try.prog 3) ma n D) (hn : n < maxLen) {k : Int × Int} (hk : KOk k) :
 ∃ (v0 st : Value) (W1 W2 : World), (Instr.mapEntry 67 (.map (some ma)) (okV k)).run Try.prog w = .ok (.tuple #[v0, st]) W1 ∧ (Instr.entryStore 67 (.map (some ma)) st (.int .i64 1)).run Try.prog W1 = .ok () W2 ∧
  W2.ownsMap Try.prog 69 (plainElem (H := Unit) Try.prog 3) ma (n + 1) (D.put (ok7 k) (.lit (.int .i64 1))) ∧ w.mapTurned W2 ma := by
 obtain ⟨W2, hup, hown, hturn⟩ := h.store o_keyed Try.underlying67 hn (val := .int .i64 1) (ok7_of hk.a hk.b) (plainElem_int Try.underlying3 (by decide))
 obtain ⟨es, clock, hb, F, _, _⟩ := h
 obtain ⟨v0, st, es1, clock1, he, _, hs⟩ := Go.WideElems.entry_then_store o_law Try.underlying67 (z := .int .i64 0) (fun u => by kernel_rfl) hb F (ok7_of hk.a hk.b)
 obtain ⟨es', clock', h1, h2⟩ := hs (Go.ChangeMaps.setBlock w ma (.map es1 clock1)) (.int .i64 1) (Go.ChangeMaps.heap_setBlock_same hb _)
 have e : W2 = Go.ChangeMaps.setBlock w ma (.map es' clock') := by
  rw [hup] at h2
  injection h2
 refine ⟨v0, _, _, W2, he, ?_, hown, hturn⟩
 rw [h1, o_setBlock_twice, e]
theorem o_okw {α : Type} {a b : α} {w w' : World} (h : (Result.ok a w : Result α) = .ok b w') : w = w' := by injection h
theorem bump_look {w : World} {ma n : Nat} {D : DataW Unit} {seen : List (Int × Int)} (h : w.ownsMap Try.prog 69 (plainElem (H := Unit) Try.prog 3) ma n D) (hs : SeenD D seen) (hn : n < maxLen) {k : Int × Int} (hk : KOk k) (hns : k ∉ seen) :
 ∃ (v0 st : Value) (W1 W2 : World), (Instr.mapEntry 67 (.map (some ma)) (okV k)).run Try.prog w = .ok (.tuple #[v0, st]) W1 ∧ (Instr.lookup 67 (.map (some ma)) (okV k) false).run Try.prog W1 = .ok (.int .i64 0) W1 ∧ (Instr.entryStore 67 (.map (some ma)) st (.int .i64 1)).run Try.prog W1 = .ok () W2 ∧
  W2.ownsMap Try.prog 69 (plainElem (H := Unit) Try.prog 3) ma (n + 1) (D.put (ok7 k) (.lit (.int .i64 1))) ∧ w.mapTurned W2 ma := by
 obtain ⟨v0, st, W1, W2, he, hst, hown, hturn⟩ := bump_seen (seen := seen) h hn hk
 refine ⟨v0, st, W1, W2, he, ?_, hst, hown, hturn⟩
 have hkey := ok7_of hk.a hk.b
 obtain ⟨W0, hup0, hown0, _⟩ := h.store o_keyed Try.underlying67 hn (val := .int .i64 0) hkey (plainElem_int Try.underlying3 (by decide))
 have hat : D.atKey (ok7 k) (.lit (.int .i64 0)) = .lit (.int .i64 0) := by rw [hs k hk, if_neg hns]
 have hkl : WideAt.IsKeyLit (ok7 k) := by first | exact trivial | exact ⟨_, rfl⟩ | simp [WideAt.IsKeyLit, ok7]
 have hz : ∀ u : World, (zeroValue 3).run Try.prog u = .ok (.int .i64 0) u := fun u => by kernel_rfl
 have hmap := h
 obtain ⟨es, clock, hb, F, hsz, hD⟩ := h
 have fin : ∀ D1 : DataW Unit, ∀ n1, W1.ownsMap Try.prog 69 (plainElem (H := Unit) Try.prog 3) ma n1 D1 → D1.atKey (ok7 k) (.lit (.int .i64 0)) = .lit (.int .i64 0) → (Instr.lookup 67 (.map (some ma)) (okV k) false).run Try.prog W1 = .ok (.int .i64 0) W1 := by
  intro D1 n1 h1 h2
  obtain ⟨c, hrun, hc, _⟩ := h1.lookup_int o_keyed Try.underlying67 Try.underlying3 (by kernel_rfl) hkey
  rw [h2] at hc
  simp only [DataW.lit.injEq, Lit.int.injEq, true_and] at hc
  rw [hrun, ← hc]
 rcases o_law.find w hkey es.toList F.keys with ⟨h1, h2⟩ | ⟨j, e0, h1, h2, h3⟩
 ·have r1 : (Instr.mapEntry 67 (.map (some ma)) (okV k)).run Try.prog w = .ok (.tuple #[.int .i64 0, goInt clock]) (Go.ChangeMaps.setBlock w ma (.map (es.push ⟨okV k, .int .i64 0, clock⟩) (clock + 1))) := by
   simp [Instr.mapEntry, run_underlying Try.underlying67, MapKept.run_getObj_map hb, o_law.check w false hkey, h1, hz, MapKept.run_setObj_map _ hb, Result.andThen, Go.ChangeMaps.setBlock]
  have r2 : (Instr.mapUpdate 67 (.map (some ma)) (okV k) (.int .i64 0)).run Try.prog w = .ok () (Go.ChangeMaps.setBlock w ma (.map (es.push ⟨okV k, .int .i64 0, clock⟩) (clock + 1))) := by
   simp [Instr.mapUpdate, run_underlying Try.underlying67, MapKept.run_getObj_map hb, o_law.check w false hkey, h1, MapKept.run_setObj_map _ hb, Result.andThen, Go.ChangeMaps.setBlock]
  have e1 : W1 = Go.ChangeMaps.setBlock w ma (.map (es.push ⟨okV k, .int .i64 0, clock⟩) (clock + 1)) := by
   exact (o_okw (r1.symm.trans he)).symm
  have e0 : W0 = Go.ChangeMaps.setBlock w ma (.map (es.push ⟨okV k, .int .i64 0, clock⟩) (clock + 1)) := by
   exact (o_okw (r2.symm.trans hup0)).symm
  rw [e0, ← e1] at hown0
  exact fin _ _ hown0 (Maps.atKey_put_same hmap.isMap hkl _ _)
 ·have hj : es[j]? = some e0 := by simpa using h2
  have hsame : es.modify j (fun e => { e with key := okV k }) = es := by
   apply Array.ext'
   rw [Array.toList_modify, Go.ChangeMaps.modify_eq_set _ _ _ _ h2]
   have : ({ e0 with key := okV k } : MapEntry) = e0 := by rw [← h3]
   rw [this]
   exact Go.WideElems.set_self _ _ _ h2
  have r1 : (Instr.mapEntry 67 (.map (some ma)) (okV k)).run Try.prog w = .ok (.tuple #[e0.val, goInt e0.born]) (Go.ChangeMaps.setBlock w ma (.map es clock)) := by
   simp [Instr.mapEntry, run_underlying Try.underlying67, MapKept.run_getObj_map hb, o_law.check w false hkey, h1, hj, h3, o_law.stays w hkey, hsame, MapKept.run_setObj_map _ hb, Result.andThen, Go.ChangeMaps.setBlock]
  have e1 : W1 = Go.ChangeMaps.setBlock w ma (.map es clock) := by
   exact (o_okw (r1.symm.trans he)).symm
  have h5 : W1.ownsMap Try.prog 69 (plainElem (H := Unit) Try.prog 3) ma n D := by
   rw [e1]
   exact ⟨es, clock, Go.ChangeMaps.heap_setBlock_same hb _, F, hsz, hD⟩
  exact fin _ _ h5 hat
end Go.Proofs.Ytjggmimaolddkaa
namespace Go.Proofs.Ytjggmimaolddkaa
open Go.RowKit Go.Maps Go.WideMaps
set_option linter.unusedVariables false
theorem o_grown {w w' : World} (hb : Below w.heap.size w w') : w.grownBy w' none := ⟨hb.os, hb.tape, hb.output, hb.size, fun k hk _ => hb.block k hk⟩
theorem neq_res (a b c d : Int) (w : World) :
 (binOp .neq 33 (.agg #[.int .i64 a, .int .u64 b]) (.agg #[.int .i64 c, .int .u64 d])).run Try.prog w = .ok (.bool (!decide (a = c ∧ b = d))) w := by
 have e : decide (a = c ∧ b = d) = ((a == c) && (b == d)) := by
  rw [Bool.eq_iff_iff]
  simp only [decide_eq_true_eq, Bool.and_eq_true, beq_iff_eq]
 rw [e]
 go_simp
 by_cases h1 : a = c
 ·by_cases h2 : b = d
  ·simp [h1, h2]
  ·simp [h1, h2]
 ·simp [h1]
def rwCells (l : List Rw7) : List Value := l.flatMap Rw7.cells
abbrev RdW7 (w : World) (B : Nat) (A : Option Addr) (n : Nat) (l : List Rw7) : Prop := Rd w B 6 A n (rwCells l)
theorem Rd.rwLen {w : World} {B n : Nat} {A : Option Addr} {l : List Rw7} (h : RdW7 w B A n l) : l.length = n := by
 have h1 := h.len
 have h2 := o_flat_len Rw7.cells 6 (fun _ => rfl) l
 unfold rwCells at h1
 omega
theorem Rd.rwAt {w : World} {B n : Nat} {A : Option Addr} {l : List Rw7} (h : RdW7 w B A n l) {k : Nat} (hk : k < n) :
 ∃ b o r, A = some ⟨b, o, none⟩ ∧ b < B ∧ l[k]? = some r ∧ ∀ j u, r.cells[j]? = some u → w.cell? ⟨b, o + (k * 6 + j), none⟩ = some u := by
 obtain ⟨b, o, e, hb, hc⟩ := h.at_ (by omega)
 have hl : k < l.length := by rw [h.rwLen]; exact hk
 refine ⟨b, o, l[k]'hl, e, hb, List.getElem?_eq_getElem hl, fun j u hu => hc _ _ ?_⟩
 have hj : j < 6 := (List.getElem?_eq_some_iff.1 hu).1
 unfold rwCells
 rw [o_flat_at Rw7.cells 6 (fun _ => rfl) l k _ j (List.getElem?_eq_getElem hl) hj]
 exact hu
structure Rw7.Ok (r : Rw7) : Prop where
 key : KOk r.key
 at_ : -9223372036854775808 ≤ r.at_ ∧ r.at_ ≤ 9223372036854775807
 nv : ∃ A n c, r.nv = .slice A n c
set_option maxRecDepth 100000 in
set_option maxHeartbeats 8000000 in
theorem ofits_any (recs : List Rc7) (rows : List Rw7) (A : Option Addr) (n c : Nat) (A' : Option Addr) (m c' : Nat) (w : World) (hr : RdR w w.heap.size A n recs) (hr' : RdW7 w w.heap.size A' m rows) (hok : ∀ r ∈ rows, r.Ok) (hrk : ∀ q ∈ recs, KOk q.key) (hm : m ≤ 1000) :
 Calls Try.prog 7 #[.slice A n c, .slice A' m c'] w fun e w' => e = .returned (.tuple #[.int .i64 (fits7 recs rows).1, .int .i64 (fits7 recs rows).2]) ∧ Below w.heap.size w w' := by
 have hlen := hr'.rwLen
 have HR := Lib.hid hr
 have HR' := Lib.hid hr'
 have HLen := Lib.hid hlen
 have HOk := Lib.hid hok
 have HRk := Lib.hid hrk
 have hmm := @run_makeMap Try.prog
 clear hr hr' hlen hok hrk
 go_enter Try.func7, Try.ntmps7
 go_wp2
 go_loopw [7, 18] (fun lv i wr => ∃ (k s : Nat) (last : Int) (seen : List (Int × Int)) (D : DataW Unit), (k ≤ m ∧ i = .int .i64 k ∧ lv = .int .i64 last ∧ s ≤ k) ∧ Hid (fitsGo7 recs (rows.drop k) seen last k = fits7 recs rows) ∧ Hid (wr.ownsMap Try.prog 69 (plainElem (H := Unit) Try.prog 3) w.heap.size s D) ∧ Hid (SeenD D seen) ∧ Hid (Below w.heap.size w wr)) (fun _ i _ => m - (intOf i).toNat)
 case atStart => exact ⟨0, 0, 0, [], .map [], ⟨by omega, rfl, rfl, by omega⟩, rfl, World.ownsMap_made _ _ _ _, SeenD.nil, (Below.refl _ _).alloc (Nat.le_refl _) _⟩
 case round =>
  obtain ⟨k, s, last, seen, D, ⟨hk, rfl, rfl, hs⟩, HG, HM, HD, HB⟩ := hrel
  by_cases hlt : k < m
  ·have hlti : (k : Int) < (m : Int) := by omega
   obtain ⟨b, o, r, rfl, hb, hrw, hc⟩ := (HR'.out.below HB.out).rwAt hlt
   have hkl : k < rows.length := by rw [HLen.out]; exact hlt
   have hdr : rows.drop k = r :: rows.drop (k + 1) := by
    rw [List.drop_eq_getElem_cons hkl]; rw [List.getElem?_eq_getElem hkl] at hrw; injection hrw with hrw; rw [hrw]
   have hg := HG.out
   rw [hdr, fitsGo7] at hg
   have HRo := Lib.hid (HOk.out r (List.mem_of_getElem? hrw))
   obtain ⟨nA, nn, nc, hnv⟩ := HRo.out.nv
   obtain ⟨rat, rwho, rtag, rco, rva, rnv⟩ := r
   simp only at hnv
   subst hnv
   have d0 := hc 0 _ rfl
   have d1 := hc 1 _ rfl
   have d2 := hc 2 _ rfl
   have d3 := hc 3 _ rfl
   have d4 := hc 4 _ rfl
   have d5 := hc 5 _ rfl
   simp only [← Nat.add_assoc, Nat.add_zero] at d0 d1 d2 d3 d4 d5
   clear hc hdr hrw hkl
   go_upto_region 7 with fail
   obtain ⟨W1, hW1⟩ : ∃ W1, (wr.alloc (.cells #[.int .i64 rat, .int .i64 rwho, .int .i64 rtag, .int .i64 rco, .int .u64 rva, .slice nA nn nc] 36)).alloc (.cells #[.int .i64 rwho, .int .i64 rtag] 69) = W1 := ⟨_, rfl⟩
   rw [hW1]
   have HI1 : Hid (Bk W1 wr.heap.size 36 #[.int .i64 rat, .int .i64 rwho, .int .i64 rtag, .int .i64 rco, .int .u64 rva, .slice nA nn nc]) := by show Bk _ _ _ _; rw [← hW1]; exact (Bk.new _ _ _).alloc _
   have HK1 : Hid (Bk W1 (wr.heap.size + 1) 69 #[.int .i64 rwho, .int .i64 rtag]) := by
    show Bk _ _ _ _
    rw [← hW1]
    have h := Bk.new (wr.alloc (.cells #[.int .i64 rat, .int .i64 rwho, .int .i64 rtag, .int .i64 rco, .int .u64 rva, .slice nA nn nc] 36)) 69 #[.int .i64 rwho, .int .i64 rtag]
    simpa using h
   have HB1 : Hid (Below w.heap.size w W1) := by show Below _ _ _; rw [← hW1]; exact (HB.out.alloc HB.out.size _).alloc (by have := HB.out.size; simp; omega) _
   have HM1 : Hid (W1.ownsMap Try.prog 69 (plainElem (H := Unit) Try.prog 3) w.heap.size s D) := by
    show World.ownsMap _ _ _ _ _ _ _
    rw [← hW1]
    exact (HM.out.kept (World.grownBy_alloc _ _ none) (by simp)).kept (World.grownBy_alloc _ _ none) (by simp)
   clear hW1 d0 d1 d2 d3 d4 d5
   have k0 : W1.cell? ⟨wr.heap.size + 1, 0, none⟩ = some (.int .i64 rwho) := HK1.out.cell 0
   have k1 : W1.cell? ⟨wr.heap.size + 1, 1, none⟩ = some (.int .i64 rtag) := HK1.out.cell 1
   have hfi := ofind_any recs A n c rwho rtag W1 ((HR.out.below HB1.out).more HB1.out.size)
   unfold findI at hfi
   have hkey : Rw7.key ⟨rat, rwho, rtag, rco, rva, .slice nA nn nc⟩ = (rwho, rtag) := rfl
   rw [hkey] at hg
   cases hf : findK (rwho, rtag) recs 0 with
   | none =>
     rw [hf] at hg hfi
     simp only at hg hfi
     have HE := Lib.hid hg
     clear hg hf
     go_wp2_with (
      go_at_call 18
      refine hfi.mono ?_
      rintro e w2 ⟨rfl, hb2⟩
      have HB2 := Lib.hid (HB1.out.trans (hb2.mono HB1.out.size))
      clear hb2)
     go_ret2
     exact ⟨by rw [← HE.out]; rfl, HB2.out⟩
   | some iq =>
     obtain ⟨i, q⟩ := iq
     rw [hf] at hg hfi
     simp only at hg hfi
     obtain ⟨hqm, hqk, _, hqi⟩ := findK_mem hf
     rw [Nat.sub_zero] at hqi
     have hin : i < n := by rw [← HR.out.rcLen]; exact (List.getElem?_eq_some_iff.1 hqi).1
     have hini : (i : Int) < (n : Int) := by omega
     have hi0 : ¬ (i : Int) < 0 := by omega
     obtain ⟨bR, oR, q', hA, hbR, hq', hcR⟩ := HR.out.rcAt hin
     subst hA
     rw [hqi] at hq'
     obtain rfl := Option.some.inj hq'
     have HG2 := Lib.hid hg
     have HFi := Lib.hid hfi
     have HKo : Hid (KOk (rwho, rtag)) := HRo.out.key
     obtain ⟨q_w, q_t, q_p, x0, x1, x2, x3, q_f, q_l, q_s, q_d, q_c, q_v⟩ := q
     clear hg hf hfi hqm hqi hq'
     go_upto_region 10 with (
      go_at_call 18
      refine HFi.out.mono ?_
      rintro e w2 ⟨rfl, hb2⟩
      have HB2 := Lib.hid (HB1.out.trans (hb2.mono HB1.out.size))
      have HI2 := Lib.hid (HI1.out.below hb2 HI1.out.lt)
      have HK2 := Lib.hid (HK1.out.below hb2 HK1.out.lt)
      have HM2 := Lib.hid (HM1.out.kept (o_grown hb2) (by simp))
      clear hb2 k0 k1)
     have e0 := (HB2.out.cell (p := ⟨bR, oR + (i * 13 + 0), none⟩) hbR).trans (hcR 0 _ rfl)
     have e1 := (HB2.out.cell (p := ⟨bR, oR + (i * 13 + 1), none⟩) hbR).trans (hcR 1 _ rfl)
     have e2 := (HB2.out.cell (p := ⟨bR, oR + (i * 13 + 2), none⟩) hbR).trans (hcR 2 _ rfl)
     have e3 := (HB2.out.cell (p := ⟨bR, oR + (i * 13 + 3), none⟩) hbR).trans (hcR 3 _ rfl)
     have e4 := (HB2.out.cell (p := ⟨bR, oR + (i * 13 + 4), none⟩) hbR).trans (hcR 4 _ rfl)
     have e5 := (HB2.out.cell (p := ⟨bR, oR + (i * 13 + 5), none⟩) hbR).trans (hcR 5 _ rfl)
     have e6 := (HB2.out.cell (p := ⟨bR, oR + (i * 13 + 6), none⟩) hbR).trans (hcR 6 _ rfl)
     have e7 := (HB2.out.cell (p := ⟨bR, oR + (i * 13 + 7), none⟩) hbR).trans (hcR 7 _ rfl)
     have e8 := (HB2.out.cell (p := ⟨bR, oR + (i * 13 + 8), none⟩) hbR).trans (hcR 8 _ rfl)
     have e9 := (HB2.out.cell (p := ⟨bR, oR + (i * 13 + 9), none⟩) hbR).trans (hcR 9 _ rfl)
     have e10 := (HB2.out.cell (p := ⟨bR, oR + (i * 13 + 10), none⟩) hbR).trans (hcR 10 _ rfl)
     have e11 := (HB2.out.cell (p := ⟨bR, oR + (i * 13 + 11), none⟩) hbR).trans (hcR 11 _ rfl)
     have e12 := (HB2.out.cell (p := ⟨bR, oR + (i * 13 + 12), none⟩) hbR).trans (hcR 12 _ rfl)
     simp only [← Nat.add_assoc, Nat.add_zero] at e0 e1 e2 e3 e4 e5 e6 e7 e8 e9 e10 e11 e12
     clear hcR
     go_upto_region 11 with fail
     obtain ⟨W3, hW3⟩ : ∃ W3, w2.alloc (.cells #[.int .i64 q_w, .int .i64 q_t, .int .i64 q_p, .int .u64 x0, .int .u64 x1, .int .u64 x2, .int .u64 x3, .int .i64 q_f, .int .i64 q_l, .int .i64 q_s, .bool q_d, .int .i64 q_c, .int .u64 q_v] 41) = W3 := ⟨_, rfl⟩
     rw [hW3]
     have HQ3 : Hid (Bk W3 w2.heap.size 41 #[.int .i64 q_w, .int .i64 q_t, .int .i64 q_p, .int .u64 x0, .int .u64 x1, .int .u64 x2, .int .u64 x3, .int .i64 q_f, .int .i64 q_l, .int .i64 q_s, .bool q_d, .int .i64 q_c, .int .u64 q_v]) := by show Bk _ _ _ _; rw [← hW3]; exact Bk.new _ _ _
     have HB3 : Hid (Below w.heap.size w W3) := by show Below _ _ _; rw [← hW3]; exact HB2.out.alloc HB2.out.size _
     have HI3 : Hid (Bk W3 wr.heap.size 36 #[.int .i64 rat, .int .i64 rwho, .int .i64 rtag, .int .i64 rco, .int .u64 rva, .slice nA nn nc]) := by show Bk _ _ _ _; rw [← hW3]; exact HI2.out.alloc _
     have HK3 : Hid (Bk W3 (wr.heap.size + 1) 69 #[.int .i64 rwho, .int .i64 rtag]) := by show Bk _ _ _ _; rw [← hW3]; exact HK2.out.alloc _
     have HM3 : Hid (W3.ownsMap Try.prog 69 (plainElem (H := Unit) Try.prog 3) w.heap.size s D) := by
      show World.ownsMap _ _ _ _ _ _ _
      rw [← hW3]
      exact HM2.out.kept (World.grownBy_alloc _ _ none) (by simp)
     clear hW3 e0 e1 e2 e3 e4 e5 e6 e7 e8 e9 e10 e11 e12
     have hlk := look_seen HM3.out HD.out HKo.out
     unfold okV at hlk
     simp only at hlk
     have k0 : W3.cell? ⟨wr.heap.size + 1, 0, none⟩ = some (.int .i64 rwho) := HK3.out.cell 0
     have k1 : W3.cell? ⟨wr.heap.size + 1, 1, none⟩ = some (.int .i64 rtag) := HK3.out.cell 1
     have r0 : W3.cell? ⟨wr.heap.size, 0, none⟩ = some (.int .i64 rat) := HI3.out.cell 0
     have r3 : W3.cell? ⟨wr.heap.size, 3, none⟩ = some (.int .i64 rco) := HI3.out.cell 3
     have r4 : W3.cell? ⟨wr.heap.size, 4, none⟩ = some (.int .u64 rva) := HI3.out.cell 4
     have s7 : W3.cell? ⟨w2.heap.size, 7, none⟩ = some (.int .i64 q_f) := HQ3.out.cell 7
     have s8 : W3.cell? ⟨w2.heap.size, 8, none⟩ = some (.int .i64 q_l) := HQ3.out.cell 8
     have s10 : W3.cell? ⟨w2.heap.size, 10, none⟩ = some (.bool q_d) := HQ3.out.cell 10
     have s11 : W3.cell? ⟨w2.heap.size, 11, none⟩ = some (.int .i64 q_c) := HQ3.out.cell 11
     have s12 : W3.cell? ⟨w2.heap.size, 12, none⟩ = some (.int .u64 q_v) := HQ3.out.cell 12
     by_cases hsn : (rwho, rtag) ∈ seen
     ·rw [if_pos hsn] at hlk
      have HE : Hid (((k : Int), (5 : Int)) = fits7 recs rows) := by
       have h := HG2.out
       have hb5 : badRow ⟨q_w, q_t, q_p, x0, x1, x2, x3, q_f, q_l, q_s, q_d, q_c, q_v⟩ ⟨rat, rwho, rtag, rco, rva, .slice nA nn nc⟩ seen last = 5 := by unfold badRow; rw [if_pos (show (rwho, rtag) ∈ seen from hsn)]
       rw [hb5, if_pos (by decide)] at h
       exact h
      clear hsn
      go_wp2
      go_ret2
      exact ⟨by rw [← HE.out]; rfl, HB3.out⟩
     ·rw [if_neg hsn] at hlk
      have HSn := Lib.hid hsn
      have HBad : Hid (badRow ⟨q_w, q_t, q_p, x0, x1, x2, x3, q_f, q_l, q_s, q_d, q_c, q_v⟩ ⟨rat, rwho, rtag, rco, rva, .slice nA nn nc⟩ seen last = if rat < last ∨ rat < q_f ∨ (q_d = true ∧ q_l < rat) then 50 else if q_d = true ∧ ¬ (rco = q_c ∧ rva = q_v) then 51 else 0) := by
       show _ = _
       unfold badRow
       rw [if_neg (show ¬ (rwho, rtag) ∈ seen from hsn)]
      clear hsn
      have h50 : rat < last ∨ rat < q_f ∨ (q_d = true ∧ q_l < rat) → ((k : Int), (50 : Int)) = fits7 recs rows := by
       intro hx
       have h := HG2.out
       rw [HBad.out, if_pos hx, if_pos (by decide)] at h
       exact h
      by_cases h1 : rat < last
      ·have HE := Lib.hid (h50 (.inl h1))
       clear h50
       go_wp2
       go_ret2
       exact ⟨by rw [← HE.out]; rfl, HB3.out⟩
      by_cases h2 : rat < q_f
      ·have HE := Lib.hid (h50 (.inr (.inl h2)))
       clear h50
       go_wp2
       go_ret2
       exact ⟨by rw [← HE.out]; rfl, HB3.out⟩
      cases q_d with
      | true =>
        by_cases h3 : q_l < rat
        ·have HE := Lib.hid (h50 (.inr (.inr ⟨rfl, h3⟩)))
         clear h50
         go_wp2
         go_ret2
         exact ⟨by rw [← HE.out]; rfl, HB3.out⟩
        ·clear h50
         have hnq := fun W => neq_res rco rva q_c q_v W
         by_cases h4 : rco = q_c ∧ rva = q_v
         ·rw [decide_eq_true h4] at hnq
          simp only [Bool.not_true] at hnq
          go_upto_region 17 with fail
          have hgd : W3.grownBy W3.drew none := ⟨rfl, rfl, rfl, Nat.le_refl _, fun _ _ _ => rfl⟩
          have HMD := Lib.hid (HM3.out.kept hgd (by simp))
          have hlD := look_seen HMD.out HD.out HKo.out
          rw [if_neg HSn.out] at hlD
          obtain ⟨v0, st, V1, V2, be, bl, bs, bo, bt⟩ := bump_look HMD.out HD.out (by unfold maxLen; omega) HKo.out HSn.out
          unfold okV at hlD be bl
          simp only at hlD be bl
          have kD0 : W3.drew.cell? ⟨wr.heap.size + 1, 0, none⟩ = some (.int .i64 rwho) := k0
          have kD1 : W3.drew.cell? ⟨wr.heap.size + 1, 1, none⟩ = some (.int .i64 rtag) := k1
          have HBo := Lib.hid bo
          have HBt := Lib.hid bt
          clear bo bt
          go_region
          have hgt := HBt.out.grown
          have hml : w.heap.size < wr.heap.size := by
           obtain ⟨es, clock, hb9, _⟩ := HM.out
           exact (Array.getElem?_eq_some_iff.1 hb9).1
          have HI4 := Lib.hid ((HI3.out.grown hgd (by simp)).grown hgt (by simp; omega))
          have HB4 : Hid (Below w.heap.size w V2) := HB3.out.drew.grown hgt HB3.out.size (fun r e => by cases e; exact Nat.le_refl _)
          have t0 : V2.cell? ⟨wr.heap.size, 0, none⟩ = some (.int .i64 rat) := HI4.out.cell 0
          have HD4 := Lib.hid (HD.out.add HMD.out.isMap HKo.out HSn.out)
          have hb0 : badRow ⟨q_w, q_t, q_p, x0, x1, x2, x3, q_f, q_l, q_s, true, q_c, q_v⟩ ⟨rat, rwho, rtag, rco, rva, .slice nA nn nc⟩ seen last = 0 := by
           rw [HBad.out, if_neg (by rintro (hx | hx | hx); exact h1 hx; exact h2 hx; exact h3 hx.2), if_neg (fun e => e.2 h4)]
          have HG4 : Hid (fitsGo7 recs (rows.drop (k + 1)) (seen ++ [(rwho, rtag)]) rat (k + 1) = fits7 recs rows) := by
           have h := HG2.out
           rw [hb0, if_neg (by simp)] at h
           exact h
          clear hb0 hgt be bl bs
          go_wp2
          go_roundw
          case rel => exact ⟨k + 1, s + 1, rat, seen ++ [(rwho, rtag)], _, ⟨by omega, by go_num, rfl, by omega⟩, HG4.out, HBo.out, HD4.out, HB4.out⟩
          case measure => simp [intOf]; omega
         ·have hb51 : badRow ⟨q_w, q_t, q_p, x0, x1, x2, x3, q_f, q_l, q_s, true, q_c, q_v⟩ ⟨rat, rwho, rtag, rco, rva, .slice nA nn nc⟩ seen last = 51 := by
           rw [HBad.out, if_neg (by rintro (hx | hx | hx); exact h1 hx; exact h2 hx; exact h3 hx.2), if_pos ⟨rfl, h4⟩]
          have HE : Hid (((k : Int), (51 : Int)) = fits7 recs rows) := by
           have h := HG2.out
           rw [hb51, if_pos (by decide)] at h
           exact h
          clear hb51
          rw [decide_eq_false h4] at hnq
          simp only [Bool.not_false] at hnq
          go_wp2
          go_ret2
          exact ⟨by rw [← HE.out]; rfl, HB3.out⟩
      | false =>
        clear h50
        go_upto_region 17 with fail
        have hgd : W3.grownBy W3.drew none := ⟨rfl, rfl, rfl, Nat.le_refl _, fun _ _ _ => rfl⟩
        have HMD := Lib.hid (HM3.out.kept hgd (by simp))
        have hlD := look_seen HMD.out HD.out HKo.out
        rw [if_neg HSn.out] at hlD
        obtain ⟨v0, st, V1, V2, be, bl, bs, bo, bt⟩ := bump_look HMD.out HD.out (by unfold maxLen; omega) HKo.out HSn.out
        unfold okV at hlD be bl
        simp only at hlD be bl
        have kD0 : W3.drew.cell? ⟨wr.heap.size + 1, 0, none⟩ = some (.int .i64 rwho) := k0
        have kD1 : W3.drew.cell? ⟨wr.heap.size + 1, 1, none⟩ = some (.int .i64 rtag) := k1
        have HBo := Lib.hid bo
        have HBt := Lib.hid bt
        clear bo bt
        go_region
        have hgt := HBt.out.grown
        have hml : w.heap.size < wr.heap.size := by
         obtain ⟨es, clock, hb9, _⟩ := HM.out
         exact (Array.getElem?_eq_some_iff.1 hb9).1
        have HI4 := Lib.hid ((HI3.out.grown hgd (by simp)).grown hgt (by simp; omega))
        have HB4 : Hid (Below w.heap.size w V2) := HB3.out.drew.grown hgt HB3.out.size (fun r e => by cases e; exact Nat.le_refl _)
        have t0 : V2.cell? ⟨wr.heap.size, 0, none⟩ = some (.int .i64 rat) := HI4.out.cell 0
        have HD4 := Lib.hid (HD.out.add HMD.out.isMap HKo.out HSn.out)
        have hb0 : badRow ⟨q_w, q_t, q_p, x0, x1, x2, x3, q_f, q_l, q_s, false, q_c, q_v⟩ ⟨rat, rwho, rtag, rco, rva, .slice nA nn nc⟩ seen last = 0 := by
         rw [HBad.out, if_neg (by rintro (hx | hx | hx); exact h1 hx; exact h2 hx; cases hx.1), if_neg (fun e => by cases e.1)]
        have HG4 : Hid (fitsGo7 recs (rows.drop (k + 1)) (seen ++ [(rwho, rtag)]) rat (k + 1) = fits7 recs rows) := by
         have h := HG2.out
         rw [hb0, if_neg (by simp)] at h
         exact h
        clear hb0 hgt be bl bs
        go_wp2
        go_roundw
        case rel => exact ⟨k + 1, s + 1, rat, seen ++ [(rwho, rtag)], _, ⟨by omega, by go_num, rfl, by omega⟩, HG4.out, HBo.out, HD4.out, HB4.out⟩
        case measure => simp [intOf]; omega
  ·obtain rfl : k = m := by omega
   have hg := HG.out
   rw [List.drop_of_length_le (by rw [HLen.out]; exact Nat.le_refl _), fitsGo7] at hg
   have HG2 := Lib.hid hg
   have hn63 := HR.out.le
   unfold maxLen at hn63
   have hrl := HR.out.rcLen
   have HRl := Lib.hid hrl
   clear hg hrl
   go_wp2
   go_loopw [90] (fun i wt => ∃ j : Nat, (j ≤ n ∧ i = .int .i64 j) ∧ Hid ((recs.take j).all (fun q => !q.done || decide (q.key ∈ seen)) = true) ∧ Hid (wt.ownsMap Try.prog 69 (plainElem (H := Unit) Try.prog 3) w.heap.size s D) ∧ Hid (Below w.heap.size w wt)) (fun i _ => n - (intOf i).toNat)
   case atStart => exact ⟨0, ⟨by omega, rfl⟩, rfl, HM.out, HB.out⟩
   case round =>
    clear HM HB
    obtain ⟨j, ⟨hj, rfl⟩, HAl, HM, HB⟩ := hrel
    by_cases hlt2 : j < n
    ·have hlti : (j : Int) < (n : Int) := by omega
     obtain ⟨bR, oR, q, rfl, hbR, hqj, hcR⟩ := (HR.out.below HB.out).rcAt hlt2
     have HKq := Lib.hid (HRk.out q (List.mem_of_getElem? hqj))
     have HTk : Hid ((recs.take (j + 1)).all (fun q => !q.done || decide (q.key ∈ seen)) = ((recs.take j).all (fun q => !q.done || decide (q.key ∈ seen)) && (!q.done || decide (q.key ∈ seen)))) := by
      show _ = _
      rw [List.take_add_one, hqj]; simp
     have HMem := Lib.hid (List.mem_of_getElem? hqj)
     obtain ⟨q_w, q_t, q_p, x0, x1, x2, x3, q_f, q_l, q_s, q_d, q_c, q_v⟩ := q
     have e0 := hcR 0 _ rfl
     have e1 := hcR 1 _ rfl
     have e2 := hcR 2 _ rfl
     have e3 := hcR 3 _ rfl
     have e4 := hcR 4 _ rfl
     have e5 := hcR 5 _ rfl
     have e6 := hcR 6 _ rfl
     have e7 := hcR 7 _ rfl
     have e8 := hcR 8 _ rfl
     have e9 := hcR 9 _ rfl
     have e10 := hcR 10 _ rfl
     have e11 := hcR 11 _ rfl
     have e12 := hcR 12 _ rfl
     simp only [← Nat.add_assoc, Nat.add_zero] at e0 e1 e2 e3 e4 e5 e6 e7 e8 e9 e10 e11 e12
     clear hcR hqj
     go_upto_region 23 with fail
     obtain ⟨W3, hW3⟩ : ∃ W3, wr.alloc (.cells #[.int .i64 q_w, .int .i64 q_t, .int .i64 q_p, .int .u64 x0, .int .u64 x1, .int .u64 x2, .int .u64 x3, .int .i64 q_f, .int .i64 q_l, .int .i64 q_s, .bool q_d, .int .i64 q_c, .int .u64 q_v] 41) = W3 := ⟨_, rfl⟩
     rw [hW3]
     have HQ3 : Hid (Bk W3 wr.heap.size 41 #[.int .i64 q_w, .int .i64 q_t, .int .i64 q_p, .int .u64 x0, .int .u64 x1, .int .u64 x2, .int .u64 x3, .int .i64 q_f, .int .i64 q_l, .int .i64 q_s, .bool q_d, .int .i64 q_c, .int .u64 q_v]) := by show Bk _ _ _ _; rw [← hW3]; exact Bk.new _ _ _
     have HB3 : Hid (Below w.heap.size w W3) := by show Below _ _ _; rw [← hW3]; exact HB.out.alloc HB.out.size _
     have HM3 : Hid (W3.ownsMap Try.prog 69 (plainElem (H := Unit) Try.prog 3) w.heap.size s D) := by
      show World.ownsMap _ _ _ _ _ _ _
      rw [← hW3]
      exact HM.out.kept (World.grownBy_alloc _ _ none) (by simp)
     clear hW3 e0 e1 e2 e3 e4 e5 e6 e7 e8 e9 e10 e11 e12
     have s0 : W3.cell? ⟨wr.heap.size, 0, none⟩ = some (.int .i64 q_w) := HQ3.out.cell 0
     have s1 : W3.cell? ⟨wr.heap.size, 1, none⟩ = some (.int .i64 q_t) := HQ3.out.cell 1
     have s6 : W3.cell? ⟨wr.heap.size, 10, none⟩ = some (.bool q_d) := HQ3.out.cell 10
     have hlk := look_seen HM3.out HD.out HKq.out
     unfold okV at hlk
     simp only at hlk
     cases q_d with
     | false =>
       go_wp2
       go_roundw
       case rel => exact ⟨j + 1, ⟨by omega, by go_num⟩, by show _ = _; rw [HTk.out, HAl.out]; rfl, HM3.out, HB3.out⟩
       case measure => simp [intOf]; omega
     | true =>
       by_cases hsn : (q_w, q_t) ∈ seen
       ·rw [if_pos (show Rc7.key ⟨q_w, q_t, q_p, x0, x1, x2, x3, q_f, q_l, q_s, true, q_c, q_v⟩ ∈ seen from hsn)] at hlk
        have HSn : Hid (decide (Rc7.key ⟨q_w, q_t, q_p, x0, x1, x2, x3, q_f, q_l, q_s, true, q_c, q_v⟩ ∈ seen) = true) := decide_eq_true hsn
        clear hsn
        go_wp2
        go_roundw
        case rel => exact ⟨j + 1, ⟨by omega, by go_num⟩, by show _ = _; rw [HTk.out, HAl.out, HSn.out]; rfl, HM3.out, HB3.out⟩
        case measure => simp [intOf]; omega
       ·rw [if_neg (show ¬ Rc7.key ⟨q_w, q_t, q_p, x0, x1, x2, x3, q_f, q_l, q_s, true, q_c, q_v⟩ ∈ seen from hsn)] at hlk
        have HE : Hid (((k : Int), (4 : Int)) = fits7 recs rows) := by
         have h := HG2.out
         rw [if_neg (fun hall => by
          have h2 := List.all_eq_true.1 hall _ HMem.out
          have h3 : decide ((q_w, q_t) ∈ seen) = true := by simpa using h2
          exact hsn (of_decide_eq_true h3))] at h
         exact h
        clear hsn
        go_wp2
        go_ret2
        exact ⟨by rw [← HE.out]; rfl, HB3.out⟩
    ·obtain rfl : j = n := by omega
     have HE : Hid (((0 : Int), (0 : Int)) = fits7 recs rows) := by
      have h := HG2.out
      have h2 := HAl.out
      rw [List.take_of_length_le (by rw [HRl.out]; exact Nat.le_refl _)] at h2
      rw [if_pos h2] at h
      exact h
     go_wp2
     go_ret2
     exact ⟨by rw [← HE.out]; rfl, HB.out⟩
end Go.Proofs.Ytjggmimaolddkaa
namespace Go.Proofs.Ytjggmimaolddkaa
open Go.RowKit
def kindNames : List ByteArray := [⟨#[115, 101, 116]⟩, ⟨#[109, 111, 118, 101]⟩, ⟨#[112, 108, 117, 115]⟩, ⟨#[109, 105, 110, 117, 115]⟩, ⟨#[116, 105, 109, 101, 115]⟩, ⟨#[109, 111, 100, 117, 108, 111]⟩, ⟨#[101, 113, 117, 97, 108]⟩, ⟨#[108, 101, 115, 115]⟩, ⟨#[97, 114, 103]⟩, ⟨#[114, 111, 111, 116]⟩, ⟨#[112, 117, 116, 114, 111, 111, 116]⟩, ⟨#[114, 101, 97, 100]⟩, ⟨#[114, 101, 97, 100, 97, 116]⟩, ⟨#[119, 114, 105, 116, 101]⟩, ⟨#[119, 114, 105, 116, 101, 97, 116]⟩, ⟨#[110, 101, 119]⟩, ⟨#[102, 114, 101, 101]⟩, ⟨#[103, 111]⟩, ⟨#[122, 101, 114, 111]⟩, ⟨#[98, 97, 99, 107]⟩, ⟨#[114, 101, 116, 117, 114, 110]⟩, ⟨#[97, 98, 111, 114, 116]⟩]
def kindForms : List ByteArray := [⟨#[97, 105]⟩, ⟨#[97, 98]⟩, ⟨#[97, 98, 99]⟩, ⟨#[97, 98, 99]⟩, ⟨#[97, 98, 99]⟩, ⟨#[97, 98, 99]⟩, ⟨#[97, 98, 99]⟩, ⟨#[97, 98, 99]⟩, ⟨#[97, 105]⟩, ⟨#[97, 98]⟩, ⟨#[97, 98]⟩, ⟨#[97, 98, 105]⟩, ⟨#[97, 98, 99]⟩, ⟨#[97, 98, 105]⟩, ⟨#[97, 98, 99]⟩, ⟨#[97]⟩, ⟨#[97]⟩, ⟨#[105]⟩, ⟨#[97, 105]⟩, ⟨#[97, 105]⟩, ⟨#[97]⟩, ⟨#[105]⟩]
def nameOf (n : Int) : ByteArray := if 0 ≤ n ∧ n < 22 then kindNames.getD n.toNat ⟨#[]⟩ else ⟨#[]⟩
def fieldsOf (n : Int) : ByteArray := if 0 ≤ n ∧ n < 22 then kindForms.getD n.toNat ⟨#[]⟩ else ⟨#[]⟩
theorem nameOf_out {n : Int} (h : ¬ (0 ≤ n ∧ n < 22)) : nameOf n = ⟨#[]⟩ := by unfold nameOf; rw [if_neg h]
theorem fieldsOf_out {n : Int} (h : ¬ (0 ≤ n ∧ n < 22)) : fieldsOf n = ⟨#[]⟩ := by unfold fieldsOf; rw [if_neg h]
def regsOf (n : Int) : Int :=
 if (2 ≤ n ∧ n ≤ 7) ∨ n = 12 ∨ n = 14 then 3 else if n = 1 ∨ (9 ≤ n ∧ n ≤ 11) ∨ n = 13 then 2
 else if n = 17 ∨ n = 21 ∨ n < 0 ∨ 21 < n then 0 else 1
def immOf (n : Int) : Bool := decide (n = 0 ∨ n = 8 ∨ n = 11 ∨ n = 13 ∨ (17 ≤ n ∧ n ≤ 19) ∨ n = 21)
def fieldB (r : Int) (u : Bool) : Bool := decide (r = 0) || (u && decide (0 < r ∧ r < 16))
def plainB (n a b c m : Int) : Bool :=
 decide (0 ≤ n ∧ n ≤ 21) && fieldB a (decide (0 < regsOf n)) && fieldB b (decide (1 < regsOf n)) && fieldB c (decide (2 < regsOf n)) && (immOf n || decide (m = 0))
end Go.Proofs.Ytjggmimaolddkaa
