import Derived.Test.YtiiaingepbkikaaGreatDoorWoAT
import Derived.Test.YtiiaingepbkikaaGreatDoorWoAV
import Derived.Test.YtiiaingepbkikaaGreatDoorWoAF
import Derived.Test.YtiiaingepbkikaaGreatDoorWoAE
import Derived.Test.YtiiaingepbkikaaGreatDoorWoAS
import Derived.Test.YtiiaingepbkikaaGreatDoorWoAH
namespace Go.Proofs.YtiiaingepbkikaaGreatDoor
open Go.RowKit
set_option linter.unusedVariables false
set_option linter.unusedSimpArgs false
structure C9 where
 b0 : Bool
 k0 : Int
 A0 : Option Addr
 n0 : Nat
 c0 : Nat
 b1 : Bool
 k1 : Int
 A1 : Option Addr
 n1 : Nat
 c1 : Nat
 b2 : Bool
 k2 : Int
 A2 : Option Addr
 n2 : Nat
 c2 : Nat
def C9.v (y : C9) : List Value := [.bool y.b0, .int .u64 y.k0, .slice y.A0 y.n0 y.c0, .bool y.b1, .int .u64 y.k1, .slice y.A1 y.n1 y.c1, .bool y.b2, .int .u64 y.k2, .slice y.A2 y.n2 y.c2]
structure RTh (L B : Nat) (w : World) (y : C9) (x : Th) : Prop where
 q : RQ L B w #[.bool y.b0, .int .u64 y.k0, .slice y.A0 y.n0 y.c0] x.q
 c : RQ L B w #[.bool y.b1, .int .u64 y.k1, .slice y.A1 y.n1 y.c1] x.c
 t : RT L B w #[.bool y.b2, .int .u64 y.k2, .slice y.A2 y.n2 y.c2] x.t
theorem RTh.below {L B : Nat} {w w' : World} {y : C9} {x : Th} (h : RTh L B w y x) (hb : Below w.heap.size w w') (hB : B ≤ w.heap.size) : RTh L B w' y x := ⟨h.q.below hb hB, h.c.below hb hB, h.t.below hb hB⟩
theorem RTh.more {L B B' : Nat} {w : World} {y : C9} {x : Th} (h : RTh L B w y x) (hB : B ≤ B') : RTh L B' w y x := ⟨h.q.more hB, h.c.more hB, h.t.more hB⟩
structure RWd (L B : Nat) (w : World) (M : Array Value) (ths : List Th) : Prop where
 size : M.size = 144
 len : ths.length = 16
 one : ∀ (j : Nat) (v : Value), M[j]? = some v → v.oneCell' = true
 th : ∀ k x, ths[k]? = some x → ∃ y : C9, (∀ j v, y.v[j]? = some v → M[k * 9 + j]? = some v) ∧ RTh L B w y x
theorem RWd.below {L B : Nat} {w w' : World} {M : Array Value} {ths : List Th} (h : RWd L B w M ths) (hb : Below w.heap.size w w') (hB : B ≤ w.heap.size) : RWd L B w' M ths :=
 ⟨h.size, h.len, h.one, fun k x hx => by obtain ⟨y, h1, h2⟩ := h.th k x hx; exact ⟨y, h1, h2.below hb hB⟩⟩
theorem RWd.more {L B B' : Nat} {w : World} {M : Array Value} {ths : List Th} (h : RWd L B w M ths) (hB : B ≤ B') : RWd L B' w M ths :=
 ⟨h.size, h.len, h.one, fun k x hx => by obtain ⟨y, h1, h2⟩ := h.th k x hx; exact ⟨y, h1, h2.more hB⟩⟩
def put9 (M : Array Value) (o : Nat) (y : C9) : Array Value := ((((((((M.setIfInBounds o (.bool y.b0)).setIfInBounds (o + 1) (.int .u64 y.k0)).setIfInBounds (o + 2) (.slice y.A0 y.n0 y.c0)).setIfInBounds (o + 3) (.bool y.b1)).setIfInBounds (o + 4) (.int .u64 y.k1)).setIfInBounds (o + 5) (.slice y.A1 y.n1 y.c1)).setIfInBounds (o + 6) (.bool y.b2)).setIfInBounds (o + 7) (.int .u64 y.k2)).setIfInBounds (o + 8) (.slice y.A2 y.n2 y.c2)
theorem put9_size (M : Array Value) (o : Nat) (y : C9) : (put9 M o y).size = M.size := by unfold put9; simp only [Array.size_setIfInBounds]
theorem put9_other {M : Array Value} {o : Nat} {y : C9} {i : Nat} (h : i < o ∨ o + 9 ≤ i) : (put9 M o y)[i]? = M[i]? := by
 unfold put9
 simp only [Array.getElem?_setIfInBounds]
 repeat rw [if_neg (by omega)]
theorem put9_at {M : Array Value} {o : Nat} {y : C9} (h : o + 9 ≤ M.size) {j : Nat} {v : Value} (hv : y.v[j]? = some v) : (put9 M o y)[o + j]? = some v := by
 have hj : j < 9 := (List.getElem?_eq_some_iff.1 hv).1
 rw [← hv]
 unfold put9 C9.v
 simp only [Array.getElem?_setIfInBounds, Array.size_setIfInBounds]
 rcases j with _ | _ | _ | _ | _ | _ | _ | _ | _ | j
 all_goals first | (exfalso; omega) | skip
 all_goals simp
 all_goals omega
theorem put9_one {M : Array Value} {k : Nat} (hs : M.size = 144) (hk : k < 16) (h : ∀ (j : Nat) (v : Value), M[j]? = some v → v.oneCell' = true) (y : C9) : ∀ (j : Nat) (v : Value), (put9 M (k * 9) y)[j]? = some v → v.oneCell' = true := by
 intro j v hv
 by_cases hj : j < k * 9 ∨ k * 9 + 9 ≤ j
 ·rw [put9_other hj] at hv
  exact h j v hv
 ·obtain ⟨i, rfl⟩ : ∃ i, j = k * 9 + i := ⟨j - k * 9, by omega⟩
  have hi : i < 9 := by omega
  obtain ⟨u, hu⟩ : ∃ u, y.v[i]? = some u := ⟨_, List.getElem?_eq_getElem (by show i < 9; exact hi)⟩
  rw [put9_at (by omega) hu] at hv
  injection hv with hv
  subst hv
  unfold C9.v at hu
  rcases i with _ | _ | _ | _ | _ | _ | _ | _ | _ | i
  all_goals first | (exfalso; omega) | (simp at hu; subst hu; rfl)
theorem all_one {M : Array Value} (h : ∀ (j : Nat) (v : Value), M[j]? = some v → v.oneCell' = true) : M.all (·.oneCell') = true := by
 rw [Array.all_eq_true_iff_forall_mem]
 intro v hv
 obtain ⟨j, hj, rfl⟩ := Array.mem_iff_getElem.1 hv
 exact h j _ (Array.getElem?_eq_getElem hj)
theorem RWd.put {L B : Nat} {w : World} {M : Array Value} {ths : List Th} {k : Nat} {x : Th} {y : C9} (h : RWd L B w M ths) (hk : k < 16) (hy : RTh L B w y x) : RWd L B w (put9 M (k * 9) y) (ths.set k x) := by
 have hs := h.size
 have hl := h.len
 refine ⟨(put9_size _ _ _).trans hs, by simpa using hl, put9_one hs hk h.one y, fun i z hz => ?_⟩
 rw [List.getElem?_set] at hz
 by_cases hki : k = i
 ·subst hki
  rw [if_pos rfl, if_pos (by omega)] at hz
  injection hz with hz
  subst hz
  exact ⟨y, fun j v hv => put9_at (by omega) hv, hy⟩
 ·rw [if_neg hki] at hz
  obtain ⟨y9, h1, h2⟩ := h.th i z hz
  refine ⟨y9, fun j v hv => ?_, h2⟩
  have hj : j < 9 := (List.getElem?_eq_some_iff.1 hv).1
  rw [put9_other (by omega)]
  exact h1 j v hv
theorem rq_none {L B : Nat} {w : World} {b : Bool} {k : Int} {A : Option Addr} {n c : Nat} (h : RQ L B w #[.bool b, .int .u64 k, .slice A n c] none) : b = false ∧ k = 0 ∧ A = none ∧ n = 0 ∧ c = 0 := by
 have e : #[Value.bool b, .int .u64 k, .slice A n c] = #[.bool false, .int .u64 0, .slice none 0 0] := h
 simp only [Array.mk.injEq, List.cons.injEq, Value.bool.injEq, Value.int.injEq, Value.slice.injEq, and_true, true_and] at e
 exact e
theorem rt_none {L B : Nat} {w : World} {b : Bool} {k : Int} {A : Option Addr} {n c : Nat} (h : RT L B w #[.bool b, .int .u64 k, .slice A n c] none) : b = false ∧ k = 0 ∧ A = none ∧ n = 0 ∧ c = 0 := rq_none (L := L) (B := B) (w := w) h
theorem rq_some {L B : Nat} {w : World} {b : Bool} {k cap : Int} {A : Option Addr} {n c : Nat} {l : List Int} (h : RQ L B w #[.bool b, .int .u64 k, .slice A n c] (some (cap, l))) : b = true ∧ k = cap ∧ SlW L A n c ∧ RdU w B A n l := by
 obtain ⟨A9, n9, c9, e, hs, hr⟩ := h
 simp only [Array.mk.injEq, List.cons.injEq, Value.bool.injEq, Value.int.injEq, Value.slice.injEq, and_true, true_and] at e
 obtain ⟨rfl, rfl, rfl, rfl, rfl⟩ := e
 exact ⟨rfl, rfl, hs, hr⟩
theorem rt_some {L B : Nat} {w : World} {b : Bool} {k cap : Int} {A : Option Addr} {n c : Nat} {l : List (Int × Int)} (h : RT L B w #[.bool b, .int .u64 k, .slice A n c] (some (cap, l))) : b = true ∧ k = cap ∧ SlW L A n c ∧ RdP w B A n l := by
 obtain ⟨A9, n9, c9, e, hs, hr⟩ := h
 simp only [Array.mk.injEq, List.cons.injEq, Value.bool.injEq, Value.int.injEq, Value.slice.injEq, and_true, true_and] at e
 obtain ⟨rfl, rfl, rfl, rfl, rfl⟩ := e
 exact ⟨rfl, rfl, hs, hr⟩
theorem rthing_th (root : Int) (x : Th) (y : C9) (L B : Nat) (w : World) (h : RTh L B w y x) (hB : B ≤ w.heap.size) (hok : x.Ok 100) (hr0 : -9223372036854775808 ≤ root) (hr1 : root ≤ 9223372036854775807) :
 Calls Tryz.prog 30 #[.int .i64 root, .agg #[.bool y.b0, .int .u64 y.k0, .slice y.A0 y.n0 y.c0, .bool y.b1, .int .u64 y.k1, .slice y.A1 y.n1 y.c1, .bool y.b2, .int .u64 y.k2, .slice y.A2 y.n2 y.c2]] w fun e w' => e = .returned (.string (str (thB root x))) ∧ Below w.heap.size w w' := by
 obtain ⟨q, c, t⟩ := x
 obtain ⟨b0, k0, A0, n0, c0, b1, k1, A1, n1, c1, b2, k2, A2, n2, c2⟩ := y
 obtain ⟨hq, hc, ht⟩ := h
 obtain ⟨oq, oc, ot, hone⟩ := hok
 simp only at hq hc ht oq oc ot hone
 show Calls _ _ #[.int .i64 root, .agg #[.bool b0, .int .u64 k0, .slice A0 n0 c0, .bool b1, .int .u64 k1, .slice A1 n1 c1, .bool b2, .int .u64 k2, .slice A2 n2 c2]] _ _
 rcases q with _ | ⟨cap, l⟩
 ·obtain ⟨rfl, rfl, rfl, rfl, rfl⟩ := rq_none hq
  rcases c with _ | ⟨cap, l⟩
  ·obtain ⟨rfl, rfl, rfl, rfl, rfl⟩ := rq_none hc
   rcases t with _ | ⟨cap, l⟩
   ·obtain ⟨rfl, rfl, rfl, rfl, rfl⟩ := rt_none ht
    exact rthing_none root w hr0 hr1
   ·obtain ⟨rfl, rfl, hs, hr⟩ := rt_some ht
    obtain ⟨o1, o2, o3, o4⟩ := ot
    exact rthing_table root k2 l A2 n2 c2 w (hr.more hB) hr0 hr1 o1.1 o1.2 (fun x hx => o2 x hx) (by have := hr.len; rw [pCells_len] at this; omega)
  ·have ht0 : t = none := by rcases hone with h | h | h <;> simp_all
   subst ht0
   obtain ⟨rfl, rfl, rfl, rfl, rfl⟩ := rt_none ht
   obtain ⟨rfl, rfl, hs, hr⟩ := rq_some hc
   obtain ⟨o1, o2, o3, o4⟩ := oc
   exact rthing_chain root k1 l A1 n1 c1 w (hr.more hB) hr0 hr1 o1.1 o1.2 (fun x hx => o2 x hx) (by have := hr.u64Len; omega)
 ·have hc0 : c = none ∧ t = none := by rcases hone with h | h | h <;> simp_all
  obtain ⟨rfl, rfl⟩ := hc0
  obtain ⟨rfl, rfl, rfl, rfl, rfl⟩ := rq_none hc
  obtain ⟨rfl, rfl, rfl, rfl, rfl⟩ := rt_none ht
  obtain ⟨rfl, rfl, hs, hr⟩ := rq_some hq
  obtain ⟨o1, o2, o3⟩ := oq
  exact rthing_queue root k0 l A0 n0 c0 w (hr.more hB) hr0 hr1 o1.1 o1.2 (fun x hx => o2 x hx) (by have := hr.u64Len; omega)
set_option maxRecDepth 100000 in
set_option maxHeartbeats 4000000 in
theorem rthings_any (ths : List Th) (M : Array Value) (L : Nat) (w : World) (hx : RWd L w.heap.size w M ths) (hok : ∀ x ∈ ths, x.Ok 100) :
 Calls Tryz.prog 9 #[.agg M] w fun e w' => e = .returned (.string (str (textP ths 16))) ∧ Below w.heap.size w w' := by
 have HX := Lib.hid hx
 have HOk := Lib.hid hok
 have HLen := Lib.hid hx.len
 obtain ⟨W1, hW1⟩ : ∃ W1, w.alloc (.cells M 45) = W1 := ⟨_, rfl⟩
 have HM : Hid (Bk W1 w.heap.size 45 M) := by show Bk _ _ _ _; rw [← hW1]; exact Bk.new _ _ _
 have HB1 : Hid (Below w.heap.size w W1) := by show Below _ _ _; rw [← hW1]; exact (Below.refl _ _).alloc (Nat.le_refl _) _
 have HW1 := Lib.hid hW1
 clear hx hok hW1
 go_enter Tryz.func9, Tryz.ntmps9
 go_upto_region 1 with fail
 rw [HW1.out]
 clear HW1
 go_wp2
 go_loopw [3, 4] (fun s t wr => ∃ k : Nat, (k ≤ 16 ∧ t = .int .i64 k ∧ s = .string (str (textP ths k))) ∧ Hid (Below W1.heap.size W1 wr)) (fun _ t _ => 16 - (intOf t).toNat)
 case atStart => exact ⟨0, ⟨by omega, rfl, rfl⟩, Below.refl _ _⟩
 case round =>
  obtain ⟨k, ⟨hk, rfl, rfl⟩, HB⟩ := hrel
  by_cases hlt : k < 16
  ·have hxk : ths[k]? = some (ths[k]'(by have := HLen.out; omega)) := List.getElem?_eq_getElem _
   have hgk : ths.getD k th0 = ths[k]'(by have := HLen.out; omega) := by rw [List.getD_eq_getElem?_getD, hxk]; rfl
   have hox := HOk.out _ (List.getElem_mem (l := ths) (n := k) (by have := HLen.out; omega))
   rw [← hgk] at hxk hox
   clear hgk
   have hnx : textP ths (k + 1) = textP ths k ++ thB k (ths.getD k th0) := rfl
   have htl := textP_len ths HOk.out HLen.out (k + 1) (by omega)
   rw [hnx] at htl
   have HNx := Lib.hid hnx
   generalize ths.getD k th0 = x at *
   obtain ⟨y, hcy, hy⟩ := HX.out.th k x hxk
   have HMr := Lib.hid (HM.out.below HB.out HM.out.lt)
   have d : ∀ j v, y.v[j]? = some v → wr.cell? ⟨w.heap.size, k * 9 + j, none⟩ = some v := fun j v h => (HMr.out.cell _).trans (hcy j v h)
   have d0 := d 0 _ rfl
   have d1 := d 1 _ rfl
   have d2 := d 2 _ rfl
   have d3 := d 3 _ rfl
   have d4 := d 4 _ rfl
   have d5 := d 5 _ rfl
   have d6 := d 6 _ rfl
   have d7 := d 7 _ rfl
   have d8 := d 8 _ rfl
   rw [Nat.add_zero] at d0
   have HY := Lib.hid hy
   have HOx := Lib.hid hox
   obtain ⟨C, hC⟩ : ∃ C, str (thB k x) = C := ⟨_, rfl⟩
   obtain ⟨D, hD⟩ : ∃ D, str (textP ths k) = D := ⟨_, rfl⟩
   obtain ⟨E, hE⟩ : ∃ E, D ++ C = E := ⟨_, rfl⟩
   have cE : ∀ w, (Op.stringOp .add D C).run Tryz.prog w = .ok (.string E) w := fun w => by
    rw [← hE]
    refine run_string_add_sum w _ _ ?_
    rw [← hC, ← hD, str_size, str_size]
    rw [List.length_append] at htl
    omega
   have HE : Hid (E = str (textP ths (k + 1))) := by show _ = _; rw [← hE, ← hC, ← hD, HNx.out, str_app]
   have HC := Lib.hid hC
   rw [hD]
   clear d hcy hy hnx htl hxk hox hE hC hD
   go_wp2_with fail
   refine (rthing_th k x y L w.heap.size _ (HY.out.below ?_ (Nat.le_refl _)) (HB1.out.trans (HB.out.mono HB1.out.size)).size HOx.out (by omega) (by omega)).mono ?_
   ·exact HB1.out.trans (HB.out.mono HB1.out.size)
   rintro e w2 ⟨rfl, hb2⟩
   rw [HC.out]
   have HB2 := Lib.hid (HB.out.trans (hb2.mono HB.out.size))
   clear hb2 d0 d1 d2 d3 d4 d5 d6 d7 d8
   go_wp2
   go_roundw
   case rel => exact ⟨k + 1, ⟨by omega, by go_num, by rw [← HE.out]⟩, HB2.out⟩
   case measure => simp [intOf]; omega
  ·have hk16 : k = 16 := by omega
   subst hk16
   go_wp2
   go_ret
   exact ⟨rfl, HB1.out.trans (HB.out.mono HB1.out.size)⟩
end Go.Proofs.YtiiaingepbkikaaGreatDoor
namespace Go.Proofs.YtiiaingepbkikaaGreatDoor
open Go.RowKit
set_option linter.unusedVariables false
set_option linter.unusedSimpArgs false
set_option maxRecDepth 100000 in
set_option maxHeartbeats 4000000 in
theorem rfault_any (ln er : Int) (w : World) (h0 : -9223372036854775808 ≤ ln ∧ ln ≤ 9223372036854775807) (h1 : -9223372036854775808 ≤ er ∧ er ≤ 9223372036854775807) :
 Calls Tryz.prog 11 #[.agg #[.int .i64 ln, .int .i64 er]] w fun e w' => e = .returned (.string (str (faultP ln er))) ∧ Below w.heap.size w w' := by
 obtain ⟨I0, hI0⟩ : ∃ S, str (Lib.itoa ln) = S := ⟨_, rfl⟩
 have zI0 : I0.size ≤ 30 := by rw [← hI0, str_size]; have := itoa_len ln h0.1 h0.2; omega
 have HI0 := Lib.hid hI0
 obtain ⟨D0, hD0⟩ : ∃ S, str (wordP er) = S := ⟨_, rfl⟩
 have zD0 : D0.size ≤ 30 := by rw [← hD0, str_size]; have := wordP_len er h1.1 h1.2; omega
 have HD0 := Lib.hid hD0
 obtain ⟨S1, hS1⟩ : ∃ S, (⟨#[108, 105, 110, 101, 32]⟩ : ByteArray) ++ I0 = S := ⟨_, rfl⟩
 have ya : (⟨#[108, 105, 110, 101, 32]⟩ : ByteArray).size = 5 := rfl
 have zS1 : S1.size = (⟨#[108, 105, 110, 101, 32]⟩ : ByteArray).size + I0.size := by rw [← hS1, ByteArray.size_append]
 have cS1 : ∀ w, (Op.stringOp .add (⟨#[108, 105, 110, 101, 32]⟩ : ByteArray) I0).run Tryz.prog w = .ok (.string S1) w := fun w => by rw [← hS1]; exact run_string_add_sum w _ _ (by omega)
 obtain ⟨S2, hS2⟩ : ∃ S, S1 ++ (⟨#[32]⟩ : ByteArray) = S := ⟨_, rfl⟩
 have yb2 : (⟨#[32]⟩ : ByteArray).size = 1 := rfl
 have zS2 : S2.size = S1.size + (⟨#[32]⟩ : ByteArray).size := by rw [← hS2, ByteArray.size_append]
 have cS2 : ∀ w, (Op.stringOp .add S1 (⟨#[32]⟩ : ByteArray)).run Tryz.prog w = .ok (.string S2) w := fun w => by rw [← hS2]; exact run_string_add_sum w _ _ (by omega)
 obtain ⟨S3, hS3⟩ : ∃ S, S2 ++ D0 = S := ⟨_, rfl⟩
 have zS3 : S3.size = S2.size + D0.size := by rw [← hS3, ByteArray.size_append]
 have cS3 : ∀ w, (Op.stringOp .add S2 D0).run Tryz.prog w = .ok (.string S3) w := fun w => by rw [← hS3]; exact run_string_add_sum w _ _ (by omega)
 obtain ⟨S4, hS4⟩ : ∃ S, S3 ++ (⟨#[10]⟩ : ByteArray) = S := ⟨_, rfl⟩
 have yb4 : (⟨#[10]⟩ : ByteArray).size = 1 := rfl
 have zS4 : S4.size = S3.size + (⟨#[10]⟩ : ByteArray).size := by rw [← hS4, ByteArray.size_append]
 have cS4 : ∀ w, (Op.stringOp .add S3 (⟨#[10]⟩ : ByteArray)).run Tryz.prog w = .ok (.string S4) w := fun w => by rw [← hS4]; exact run_string_add_sum w _ _ (by omega)
 have HFin : Hid (S4 = str (faultP ln er)) := by
  show _ = _
  rw [← hS4, ← hS3, ← hS2, ← hS1, ← hI0, ← hD0]
  show ((((str [108, 105, 110, 101, 32] ++ str (Lib.itoa ln)) ++ str [32]) ++ str (wordP er)) ++ str [10]) = _
  simp only [str_app]
  congr 1
  simp [faultP, lineP, Lib.join_cons, Lib.joinTail]
 clear hS1 zS1 hS2 zS2 hS3 zS3 hS4 zS4 ya yb2 yb4 hI0 zI0 hD0 zD0
 go_enter Tryz.func11, Tryz.ntmps11
 go_upto_region 1 with fail
 obtain ⟨W1, hW1⟩ : ∃ W1, w.alloc (.cells #[.int .i64 ln, .int .i64 er] 57) = W1 := ⟨_, rfl⟩
 have HK : Hid (Bk W1 w.heap.size 57 #[.int .i64 ln, .int .i64 er]) := by show Bk _ _ _ _; rw [← hW1]; exact Bk.new _ _ _
 have HB : Hid (Below w.heap.size w W1) := by show Below _ _ _; rw [← hW1]; exact (Below.refl _ _).alloc (Nat.le_refl _) _
 rw [hW1]
 clear hW1
 obtain ⟨V, hV⟩ : ∃ V, W1.drew = V := ⟨_, rfl⟩
 refine wp_region_held_drew (S := (fun w' => w'.cell? ⟨w.heap.size, 0, none⟩ = some (.int .i64 ln) ∧ w'.cell? ⟨w.heap.size, 1, none⟩ = some (.int .i64 er))) (by kernel_rfl) ?_ (fun hHeld => ?_)
 ·exact ⟨HK.out.cell 0, HK.out.cell 1⟩
 refine takeA 0 ?_
 try simp only [Act.put, pS]
 refine takeA 1 ?_
 try simp only [Act.put, pS]
 refine takeA 5 ?_
 try simp only [Act.put, pS]
 refine takeA 6 ?_
 try simp only [Act.put, pS]
 have HK : Hid (Bk V w.heap.size 57 #[.int .i64 ln, .int .i64 er]) := by show Bk _ _ _ _; rw [← hV]; exact HK.out
 have HB : Hid (Below w.heap.size w V) := by show Below _ _ _; rw [← hV]; exact HB.out.drew
 rw [hV] at hHeld ⊢
 clear hV
 refine comeA 2 fun K hK => ?_
 go_simp
 refine (rint_any ln h0.1 h0.2 _).mono ?_
 rintro e V1 ⟨rfl, hb⟩
 rw [HI0.out]
 have HK := Lib.hid (HK.out.below hb HK.out.lt)
 have HB := Lib.hid (HB.out.trans (hb.mono HB.out.size))
 clear hb
 go_simp
 refine hK.out _ _ ?_ (fun hHeld => ?_)
 ·exact ⟨HK.out.cell 0, HK.out.cell 1⟩
 clear hK K
 try simp only [Act.put, pS]
 refine takeA 3 ?_
 try simp only [Act.put, pS]
 refine takeA 4 ?_
 try simp only [Act.put, pS]
 refine comeA 7 fun K hK => ?_
 go_simp
 refine (rword_any er h1.1 h1.2 _).mono ?_
 rintro e V2 ⟨rfl, hb⟩
 rw [HD0.out]
 have HK := Lib.hid (HK.out.below hb HK.out.lt)
 have HB := Lib.hid (HB.out.trans (hb.mono HB.out.size))
 clear hb
 go_simp
 refine hK.out _ _ ?_ (fun hHeld => ?_)
 ·exact ⟨HK.out.cell 0, HK.out.cell 1⟩
 clear hK K
 try simp only [Act.put, pS]
 refine takeA 8 ?_
 try simp only [Act.put, pS]
 refine takeA 9 ?_
 try simp only [Act.put, pS]
 refine takeA 10 ?_
 try simp only [Act.put, pS]
 refine wpAnyH_done (by kernel_rfl) ?_ _
 try simp only [Act.put, pS]
 clear hHeld
 go_wp2
 go_ret
 exact ⟨by rw [← HFin.out]; rfl, HB.out⟩
set_option maxRecDepth 100000 in
set_option maxHeartbeats 4000000 in
theorem rsums_any (pk sw wd lb : Int) (w : World) (h0 : -9223372036854775808 ≤ pk ∧ pk ≤ 9223372036854775807) (h1 : -9223372036854775808 ≤ sw ∧ sw ≤ 9223372036854775807) (h2 : -9223372036854775808 ≤ wd ∧ wd ≤ 9223372036854775807) (h3 : -9223372036854775808 ≤ lb ∧ lb ≤ 9223372036854775807) :
 Calls Tryz.prog 13 #[.int .i64 pk, .agg #[.int .i64 sw, .int .i64 wd, .int .i64 lb]] w fun e w' => e = .returned (.string (str (sumsP pk sw wd lb))) ∧ Below w.heap.size w w' := by
 obtain ⟨I0, hI0⟩ : ∃ S, str (Lib.itoa pk) = S := ⟨_, rfl⟩
 have zI0 : I0.size ≤ 30 := by rw [← hI0, str_size]; have := itoa_len pk h0.1 h0.2; omega
 have HI0 := Lib.hid hI0
 obtain ⟨I1, hI1⟩ : ∃ S, str (Lib.itoa sw) = S := ⟨_, rfl⟩
 have zI1 : I1.size ≤ 30 := by rw [← hI1, str_size]; have := itoa_len sw h1.1 h1.2; omega
 have HI1 := Lib.hid hI1
 obtain ⟨I2, hI2⟩ : ∃ S, str (Lib.itoa wd) = S := ⟨_, rfl⟩
 have zI2 : I2.size ≤ 30 := by rw [← hI2, str_size]; have := itoa_len wd h2.1 h2.2; omega
 have HI2 := Lib.hid hI2
 obtain ⟨I3, hI3⟩ : ∃ S, str (Lib.itoa lb) = S := ⟨_, rfl⟩
 have zI3 : I3.size ≤ 30 := by rw [← hI3, str_size]; have := itoa_len lb h3.1 h3.2; omega
 have HI3 := Lib.hid hI3
 obtain ⟨S1, hS1⟩ : ∃ S, (⟨#[112, 105, 99, 107, 115, 32]⟩ : ByteArray) ++ I0 = S := ⟨_, rfl⟩
 have ya : (⟨#[112, 105, 99, 107, 115, 32]⟩ : ByteArray).size = 6 := rfl
 have zS1 : S1.size = (⟨#[112, 105, 99, 107, 115, 32]⟩ : ByteArray).size + I0.size := by rw [← hS1, ByteArray.size_append]
 have cS1 : ∀ w, (Op.stringOp .add (⟨#[112, 105, 99, 107, 115, 32]⟩ : ByteArray) I0).run Tryz.prog w = .ok (.string S1) w := fun w => by rw [← hS1]; exact run_string_add_sum w _ _ (by omega)
 obtain ⟨S2, hS2⟩ : ∃ S, S1 ++ (⟨#[32, 115, 119, 97, 112, 115, 32]⟩ : ByteArray) = S := ⟨_, rfl⟩
 have yb2 : (⟨#[32, 115, 119, 97, 112, 115, 32]⟩ : ByteArray).size = 7 := rfl
 have zS2 : S2.size = S1.size + (⟨#[32, 115, 119, 97, 112, 115, 32]⟩ : ByteArray).size := by rw [← hS2, ByteArray.size_append]
 have cS2 : ∀ w, (Op.stringOp .add S1 (⟨#[32, 115, 119, 97, 112, 115, 32]⟩ : ByteArray)).run Tryz.prog w = .ok (.string S2) w := fun w => by rw [← hS2]; exact run_string_add_sum w _ _ (by omega)
 obtain ⟨S3, hS3⟩ : ∃ S, S2 ++ I1 = S := ⟨_, rfl⟩
 have zS3 : S3.size = S2.size + I1.size := by rw [← hS3, ByteArray.size_append]
 have cS3 : ∀ w, (Op.stringOp .add S2 I1).run Tryz.prog w = .ok (.string S3) w := fun w => by rw [← hS3]; exact run_string_add_sum w _ _ (by omega)
 obtain ⟨S4, hS4⟩ : ∃ S, S3 ++ (⟨#[32, 119, 111, 114, 100, 115, 32]⟩ : ByteArray) = S := ⟨_, rfl⟩
 have yb4 : (⟨#[32, 119, 111, 114, 100, 115, 32]⟩ : ByteArray).size = 7 := rfl
 have zS4 : S4.size = S3.size + (⟨#[32, 119, 111, 114, 100, 115, 32]⟩ : ByteArray).size := by rw [← hS4, ByteArray.size_append]
 have cS4 : ∀ w, (Op.stringOp .add S3 (⟨#[32, 119, 111, 114, 100, 115, 32]⟩ : ByteArray)).run Tryz.prog w = .ok (.string S4) w := fun w => by rw [← hS4]; exact run_string_add_sum w _ _ (by omega)
 obtain ⟨S5, hS5⟩ : ∃ S, S4 ++ I2 = S := ⟨_, rfl⟩
 have zS5 : S5.size = S4.size + I2.size := by rw [← hS5, ByteArray.size_append]
 have cS5 : ∀ w, (Op.stringOp .add S4 I2).run Tryz.prog w = .ok (.string S5) w := fun w => by rw [← hS5]; exact run_string_add_sum w _ _ (by omega)
 obtain ⟨S6, hS6⟩ : ∃ S, S5 ++ (⟨#[32, 108, 105, 109, 98, 111, 32]⟩ : ByteArray) = S := ⟨_, rfl⟩
 have yb6 : (⟨#[32, 108, 105, 109, 98, 111, 32]⟩ : ByteArray).size = 7 := rfl
 have zS6 : S6.size = S5.size + (⟨#[32, 108, 105, 109, 98, 111, 32]⟩ : ByteArray).size := by rw [← hS6, ByteArray.size_append]
 have cS6 : ∀ w, (Op.stringOp .add S5 (⟨#[32, 108, 105, 109, 98, 111, 32]⟩ : ByteArray)).run Tryz.prog w = .ok (.string S6) w := fun w => by rw [← hS6]; exact run_string_add_sum w _ _ (by omega)
 obtain ⟨S7, hS7⟩ : ∃ S, S6 ++ I3 = S := ⟨_, rfl⟩
 have zS7 : S7.size = S6.size + I3.size := by rw [← hS7, ByteArray.size_append]
 have cS7 : ∀ w, (Op.stringOp .add S6 I3).run Tryz.prog w = .ok (.string S7) w := fun w => by rw [← hS7]; exact run_string_add_sum w _ _ (by omega)
 obtain ⟨S8, hS8⟩ : ∃ S, S7 ++ (⟨#[10]⟩ : ByteArray) = S := ⟨_, rfl⟩
 have yb8 : (⟨#[10]⟩ : ByteArray).size = 1 := rfl
 have zS8 : S8.size = S7.size + (⟨#[10]⟩ : ByteArray).size := by rw [← hS8, ByteArray.size_append]
 have cS8 : ∀ w, (Op.stringOp .add S7 (⟨#[10]⟩ : ByteArray)).run Tryz.prog w = .ok (.string S8) w := fun w => by rw [← hS8]; exact run_string_add_sum w _ _ (by omega)
 have HFin : Hid (S8 = str (sumsP pk sw wd lb)) := by
  show _ = _
  rw [← hS8, ← hS7, ← hS6, ← hS5, ← hS4, ← hS3, ← hS2, ← hS1, ← hI0, ← hI1, ← hI2, ← hI3]
  show ((((((((str [112, 105, 99, 107, 115, 32] ++ str (Lib.itoa pk)) ++ str [32, 115, 119, 97, 112, 115, 32]) ++ str (Lib.itoa sw)) ++ str [32, 119, 111, 114, 100, 115, 32]) ++ str (Lib.itoa wd)) ++ str [32, 108, 105, 109, 98, 111, 32]) ++ str (Lib.itoa lb)) ++ str [10]) = _
  simp only [str_app]
  congr 1
  simp [sumsP, lineP, Lib.join_cons, Lib.joinTail]
 clear hS1 zS1 hS2 zS2 hS3 zS3 hS4 zS4 hS5 zS5 hS6 zS6 hS7 zS7 hS8 zS8 ya yb2 yb4 yb6 yb8 hI0 zI0 hI1 zI1 hI2 zI2 hI3 zI3
 go_enter Tryz.func13, Tryz.ntmps13
 go_upto_region 1 with fail
 obtain ⟨W1, hW1⟩ : ∃ W1, w.alloc (.cells #[.int .i64 sw, .int .i64 wd, .int .i64 lb] 60) = W1 := ⟨_, rfl⟩
 have HK : Hid (Bk W1 w.heap.size 60 #[.int .i64 sw, .int .i64 wd, .int .i64 lb]) := by show Bk _ _ _ _; rw [← hW1]; exact Bk.new _ _ _
 have HB : Hid (Below w.heap.size w W1) := by show Below _ _ _; rw [← hW1]; exact (Below.refl _ _).alloc (Nat.le_refl _) _
 rw [hW1]
 clear hW1
 obtain ⟨V, hV⟩ : ∃ V, W1.drew = V := ⟨_, rfl⟩
 refine wp_region_held_drew (S := (fun w' => w'.cell? ⟨w.heap.size, 0, none⟩ = some (.int .i64 sw) ∧ w'.cell? ⟨w.heap.size, 1, none⟩ = some (.int .i64 wd) ∧ w'.cell? ⟨w.heap.size, 2, none⟩ = some (.int .i64 lb))) (by kernel_rfl) ?_ (fun hHeld => ?_)
 ·exact ⟨HK.out.cell 0, HK.out.cell 1, HK.out.cell 2⟩
 refine takeA 0 ?_
 try simp only [Act.put, pS]
 refine takeA 4 ?_
 try simp only [Act.put, pS]
 refine takeA 5 ?_
 try simp only [Act.put, pS]
 refine takeA 9 ?_
 try simp only [Act.put, pS]
 refine takeA 10 ?_
 try simp only [Act.put, pS]
 refine takeA 14 ?_
 try simp only [Act.put, pS]
 refine takeA 15 ?_
 try simp only [Act.put, pS]
 have HK : Hid (Bk V w.heap.size 60 #[.int .i64 sw, .int .i64 wd, .int .i64 lb]) := by show Bk _ _ _ _; rw [← hV]; exact HK.out
 have HB : Hid (Below w.heap.size w V) := by show Below _ _ _; rw [← hV]; exact HB.out.drew
 rw [hV] at hHeld ⊢
 clear hV
 refine comeA 1 fun K hK => ?_
 go_simp
 refine (rint_any pk h0.1 h0.2 _).mono ?_
 rintro e V1 ⟨rfl, hb⟩
 rw [HI0.out]
 have HK := Lib.hid (HK.out.below hb HK.out.lt)
 have HB := Lib.hid (HB.out.trans (hb.mono HB.out.size))
 clear hb
 go_simp
 refine hK.out _ _ ?_ (fun hHeld => ?_)
 ·exact ⟨HK.out.cell 0, HK.out.cell 1, HK.out.cell 2⟩
 clear hK K
 try simp only [Act.put, pS]
 refine takeA 2 ?_
 try simp only [Act.put, pS]
 refine takeA 3 ?_
 try simp only [Act.put, pS]
 refine comeA 6 fun K hK => ?_
 go_simp
 refine (rint_any sw h1.1 h1.2 _).mono ?_
 rintro e V2 ⟨rfl, hb⟩
 rw [HI1.out]
 have HK := Lib.hid (HK.out.below hb HK.out.lt)
 have HB := Lib.hid (HB.out.trans (hb.mono HB.out.size))
 clear hb
 go_simp
 refine hK.out _ _ ?_ (fun hHeld => ?_)
 ·exact ⟨HK.out.cell 0, HK.out.cell 1, HK.out.cell 2⟩
 clear hK K
 try simp only [Act.put, pS]
 refine takeA 7 ?_
 try simp only [Act.put, pS]
 refine takeA 8 ?_
 try simp only [Act.put, pS]
 refine comeA 11 fun K hK => ?_
 go_simp
 refine (rint_any wd h2.1 h2.2 _).mono ?_
 rintro e V3 ⟨rfl, hb⟩
 rw [HI2.out]
 have HK := Lib.hid (HK.out.below hb HK.out.lt)
 have HB := Lib.hid (HB.out.trans (hb.mono HB.out.size))
 clear hb
 go_simp
 refine hK.out _ _ ?_ (fun hHeld => ?_)
 ·exact ⟨HK.out.cell 0, HK.out.cell 1, HK.out.cell 2⟩
 clear hK K
 try simp only [Act.put, pS]
 refine takeA 12 ?_
 try simp only [Act.put, pS]
 refine takeA 13 ?_
 try simp only [Act.put, pS]
 refine comeA 16 fun K hK => ?_
 go_simp
 refine (rint_any lb h3.1 h3.2 _).mono ?_
 rintro e V4 ⟨rfl, hb⟩
 rw [HI3.out]
 have HK := Lib.hid (HK.out.below hb HK.out.lt)
 have HB := Lib.hid (HB.out.trans (hb.mono HB.out.size))
 clear hb
 go_simp
 refine hK.out _ _ ?_ (fun hHeld => ?_)
 ·exact ⟨HK.out.cell 0, HK.out.cell 1, HK.out.cell 2⟩
 clear hK K
 try simp only [Act.put, pS]
 refine takeA 17 ?_
 try simp only [Act.put, pS]
 refine takeA 18 ?_
 try simp only [Act.put, pS]
 refine takeA 19 ?_
 try simp only [Act.put, pS]
 refine wpAnyH_done (by kernel_rfl) ?_ _
 try simp only [Act.put, pS]
 clear hHeld
 go_wp2
 go_ret
 exact ⟨by rw [← HFin.out]; rfl, HB.out⟩
def rNm : Array Value := #[.string ⟨#[110, 101, 119]⟩, .string ⟨#[112, 117, 116]⟩, .string ⟨#[116, 97, 107, 101]⟩, .string ⟨#[112, 101, 101, 107]⟩, .string ⟨#[115, 105, 122, 101]⟩, .string ⟨#[100, 114, 111, 112]⟩, .string ⟨#[110, 101, 119]⟩, .string ⟨#[97, 100, 100]⟩, .string ⟨#[100, 101, 108]⟩, .string ⟨#[104, 97, 115]⟩, .string ⟨#[108, 101, 97, 115, 116]⟩, .string ⟨#[115, 105, 122, 101]⟩, .string ⟨#[100, 114, 111, 112]⟩, .string ⟨#[110, 101, 119]⟩, .string ⟨#[112, 117, 116]⟩, .string ⟨#[103, 101, 116]⟩, .string ⟨#[100, 101, 108]⟩, .string ⟨#[115, 105, 122, 101]⟩, .string ⟨#[100, 114, 111, 112]⟩]
set_option maxRecDepth 100000 in
theorem rnames_any (w : World) : Calls Tryz.prog 21 #[] w fun e w' => e = .returned (.slice (some ⟨w.heap.size, 0, none⟩) 19 19) ∧ w' = w.alloc (.cells rNm 9) := by
 go_enter Tryz.func21, Tryz.ntmps21
 go_wp2
 go_ret
 exact ⟨rfl, rfl⟩
def kindN (n : Int) : Int := if n < 6 then 1 else if n < 13 then 2 else 3
theorem rkind_any (n : Int) (w : World) : Calls Tryz.prog 23 #[.int .i64 n] w fun e w' => e = .returned (.int .i64 (kindN n)) ∧ w' = w := by
 by_cases h6 : n < 6
 ·have HK : Hid (kindN n = 1) := by show _ = _; unfold kindN; rw [if_pos h6]
  go_enter Tryz.func23, Tryz.ntmps23
  go_wp2
  go_ret
  exact ⟨by rw [HK.out]; rfl, rfl⟩
 ·by_cases h13 : n < 13
  ·have HK : Hid (kindN n = 2) := by show _ = _; unfold kindN; rw [if_neg h6, if_pos h13]
   go_enter Tryz.func23, Tryz.ntmps23
   go_wp2
   go_ret
   exact ⟨by rw [HK.out]; rfl, rfl⟩
  ·have HK : Hid (kindN n = 3) := by show _ = _; unfold kindN; rw [if_neg h6, if_neg h13]
   go_enter Tryz.func23, Tryz.ntmps23
   go_wp2
   go_ret
   exact ⟨by rw [HK.out]; rfl, rfl⟩
def isN (a b c : Bool) : Int := if a then 1 else if b then 2 else if c then 3 else 0
theorem ris23_any (a b c : Bool) (q1 q2 c1 c2 t1 t2 : Value) (w : World) : Calls Tryz.prog 22 #[.agg #[.bool a, q1, q2, .bool b, c1, c2, .bool c, t1, t2]] w fun e w' => e = .returned (.int .i64 (isN a b c)) ∧ Below w.heap.size w w' := by
 have HB : Hid (∀ o, Below w.heap.size w (w.alloc o)) := fun o => (Below.refl _ _).alloc (Nat.le_refl _) _
 rcases a with _ | _ <;> rcases b with _ | _ <;> rcases c with _ | _
 all_goals
  go_enter Tryz.func22, Tryz.ntmps22
  go_wp2
  go_ret
  exact ⟨rfl, HB.out _⟩
end Go.Proofs.YtiiaingepbkikaaGreatDoor
