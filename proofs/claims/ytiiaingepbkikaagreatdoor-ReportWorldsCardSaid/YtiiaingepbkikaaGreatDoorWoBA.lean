import Derived.Test.YtiiaingepbkikaaGreatDoorWoAZ
import Derived.Test.YtiiaingepbkikaaGreatDoorWoAA
import Derived.ProofKit
import Derived.OpenShut
import Derived.ShutString
import Derived.ChangeOld
import Derived.Carry
import Derived.Deep.Slices
import Derived.Deep.Fields
import Derived.Test.YtiiaingepbkikaaGreatDoorRows
import Derived.Test.YtiiaingepbkikaaGreatDoorWoAC
import Derived.Lib.LaidTab
import Derived.Lay
import Derived.MakeChecks
import Derived.Test.YtiiaingepbkikaaGreatDoorWoAE
import Derived.Test.YtiiaingepbkikaaGreatDoorWoAS
import Derived.Test.YtiiaingepbkikaaGreatDoorWoAT
namespace Go.Proofs.YtiiaingepbkikaaGreatDoor
open Go.RowKit
set_option linter.unusedVariables false
set_option linter.unusedSimpArgs false
theorem is_q {x : Th} (h : (x.q.isSome || x.none_) = true) : isT x = 0 ∨ isT x = 1 := by
 obtain ⟨q, c, t⟩ := x
 rcases q with _ | q <;> rcases c with _ | c <;> rcases t with _ | t <;> simp_all [isT, isN, Th.none_]
theorem is_c {x : Th} {k : Nat} (hok : x.Ok k) (h : (x.c.isSome || x.none_) = true) : isT x = 0 ∨ isT x = 2 := by
 obtain ⟨q, c, t⟩ := x
 have ho := hok.one
 rcases q with _ | q <;> rcases c with _ | c <;> rcases t with _ | t <;> simp_all [isT, isN, Th.none_]
theorem is_t {x : Th} {k : Nat} (hok : x.Ok k) (h : (x.t.isSome || x.none_) = true) : isT x = 0 ∨ isT x = 3 := by
 obtain ⟨q, c, t⟩ := x
 have ho := hok.one
 rcases q with _ | q <;> rcases c with _ | c <;> rcases t with _ | t <;> simp_all [isT, isN, Th.none_]
theorem isnt_q {x : Th} (h : ¬ (x.q.isSome || x.none_) = true) : isT x ≠ 0 ∧ isT x ≠ 1 := by
 obtain ⟨q, c, t⟩ := x
 rcases q with _ | q <;> rcases c with _ | c <;> rcases t with _ | t <;> simp_all [isT, isN, Th.none_]
theorem isnt_c {x : Th} {k : Nat} (hok : x.Ok k) (h : ¬ (x.c.isSome || x.none_) = true) : isT x ≠ 0 ∧ isT x ≠ 2 := by
 obtain ⟨q, c, t⟩ := x
 have ho := hok.one
 rcases q with _ | q <;> rcases c with _ | c <;> rcases t with _ | t <;> simp_all [isT, isN, Th.none_]
theorem isnt_t {x : Th} {k : Nat} (hok : x.Ok k) (h : ¬ (x.t.isSome || x.none_) = true) : isT x ≠ 0 ∧ isT x ≠ 3 := by
 obtain ⟨q, c, t⟩ := x
 have ho := hok.one
 rcases q with _ | q <;> rcases c with _ | c <;> rcases t with _ | t <;> simp_all [isT, isN, Th.none_]
theorem set_self {α : Type} {l : List α} {k : Nat} {x : α} (h : l[k]? = some x) : l.set k x = l := by
 obtain ⟨hk, rfl⟩ := List.getElem?_eq_some_iff.1 h
 exact List.set_getElem_self hk
theorem rdo_qn {b : Bool} (ths : List Th) (M : Array Value) (n k : Nat) (a1 a2 a3 : Int) (x : Th) (nm : ByteArray) (L B : Nat) (w : World) (hx : RWd L B w M ths) (hL : L ≤ w.heap.size) (hB : B ≤ w.heap.size) (hn : n ≤ 18) (hk : k < 16) (hxk : ths[k]? = some x) (hnm : rNm[n]? = some (.string nm)) (hok : x.Ok 100) (ha1 : U64' a1) (ha2 : U64' a2) (hnew : (nm.toList == [110, 101, 119]) = b) (hnk : n < 6)
 (hc : ∀ (vs : Array Value) (V : World), RQ L B V vs x.q → w.heap.size ≤ V.heap.size → Calls Tryz.prog 24 #[.agg vs, .string nm, .int .u64 a1] V (DoesRQ L B V (qP n a1 x.q))) :
 Calls Tryz.prog 7 #[.agg M, .int .i64 n, .agg #[.int .u64 k, .int .u64 a1, .int .u64 a2, .int .u64 a3]] w (DoesRW L B w (ths.set k (thP n a1 a2 x))) := by
 unfold thP
 rw [if_pos hnk]
 by_cases h : (x.q.isSome || x.none_) = true
 ·rw [if_pos h]
  exact rdo_q ths M n k a1 a2 a3 x nm L B w hx hL hB hn hk hxk hnm hnk _ (is_q h) hc
 ·rw [if_neg h, set_self hxk]
  exact rdo_bad ths M n k a1 a2 a3 x nm L B w hx hL hB hn hk hxk hnm 1 (by unfold kindN; rw [if_pos (by omega)]) (isnt_q h).1 (isnt_q h).2 (by decide) b hnew
theorem rdo_cn {b : Bool} (ths : List Th) (M : Array Value) (n k : Nat) (a1 a2 a3 : Int) (x : Th) (nm : ByteArray) (L B : Nat) (w : World) (hx : RWd L B w M ths) (hL : L ≤ w.heap.size) (hB : B ≤ w.heap.size) (hn : n ≤ 18) (hk : k < 16) (hxk : ths[k]? = some x) (hnm : rNm[n]? = some (.string nm)) (hok : x.Ok 100) (ha1 : U64' a1) (ha2 : U64' a2) (hnew : (nm.toList == [110, 101, 119]) = b) (hnk : 6 ≤ n ∧ n < 13)
 (hc : ∀ (vs : Array Value) (V : World), RQ L B V vs x.c → w.heap.size ≤ V.heap.size → Calls Tryz.prog 25 #[.agg vs, .string nm, .int .u64 a1] V (DoesRQ L B V (cP (n - 6) a1 x.c))) :
 Calls Tryz.prog 7 #[.agg M, .int .i64 n, .agg #[.int .u64 k, .int .u64 a1, .int .u64 a2, .int .u64 a3]] w (DoesRW L B w (ths.set k (thP n a1 a2 x))) := by
 unfold thP
 rw [if_neg (by omega), if_pos hnk.2]
 by_cases h : (x.c.isSome || x.none_) = true
 ·rw [if_pos h]
  exact rdo_c ths M n k a1 a2 a3 x nm L B w hx hL hB hn hk hxk hnm hnk _ (is_c hok h) hc
 ·rw [if_neg h, set_self hxk]
  exact rdo_bad ths M n k a1 a2 a3 x nm L B w hx hL hB hn hk hxk hnm 2 (by unfold kindN; rw [if_neg (by omega), if_pos (by omega)]) (isnt_c hok h).1 (isnt_c hok h).2 (by decide) b hnew
theorem rdo_tn {b : Bool} (ths : List Th) (M : Array Value) (n k : Nat) (a1 a2 a3 : Int) (x : Th) (nm : ByteArray) (L B : Nat) (w : World) (hx : RWd L B w M ths) (hL : L ≤ w.heap.size) (hB : B ≤ w.heap.size) (hn : n ≤ 18) (hk : k < 16) (hxk : ths[k]? = some x) (hnm : rNm[n]? = some (.string nm)) (hok : x.Ok 100) (ha1 : U64' a1) (ha2 : U64' a2) (hnew : (nm.toList == [110, 101, 119]) = b) (hnk : 13 ≤ n)
 (hc : ∀ (vs : Array Value) (V : World), RT L B V vs x.t → w.heap.size ≤ V.heap.size → Calls Tryz.prog 26 #[.agg vs, .string nm, .int .u64 a1, .int .u64 a2] V (DoesRT L B V (tP (n - 13) a1 a2 x.t))) :
 Calls Tryz.prog 7 #[.agg M, .int .i64 n, .agg #[.int .u64 k, .int .u64 a1, .int .u64 a2, .int .u64 a3]] w (DoesRW L B w (ths.set k (thP n a1 a2 x))) := by
 unfold thP
 rw [if_neg (by omega), if_neg (by omega)]
 by_cases h : (x.t.isSome || x.none_) = true
 ·rw [if_pos h]
  exact rdo_t ths M n k a1 a2 a3 x nm L B w hx hL hB hn hk hxk hnm hnk _ (is_t hok h) hc
 ·rw [if_neg h, set_self hxk]
  exact rdo_bad ths M n k a1 a2 a3 x nm L B w hx hL hB hn hk hxk hnm 3 (by unfold kindN; rw [if_neg (by omega), if_neg (by omega)]) (isnt_t hok h).1 (isnt_t hok h).2 (by decide) b hnew
theorem rdo_any (ths : List Th) (M : Array Value) (n a0 a1 a2 a3 : Int) (L B : Nat) (w : World) (hx : RWd L B w M ths) (hL : L ≤ w.heap.size) (hB : B ≤ w.heap.size) (hok : ∀ x ∈ ths, x.Ok 100) (ha0 : U64' a0) (ha1 : U64' a1) (ha2 : U64' a2) :
 Calls Tryz.prog 7 #[.agg M, .int .i64 n, .agg #[.int .u64 a0, .int .u64 a1, .int .u64 a2, .int .u64 a3]] w (DoesRW L B w (doP n a0 a1 a2 ths)) := by
 unfold doP
 by_cases h1 : n < 0 ∨ 19 ≤ n
 ·rw [if_pos (by omega)]
  exact rdo_out ths M n a0 a1 a2 a3 L B w hx hL hB (by omega)
 by_cases h2 : 16 ≤ a0
 ·rw [if_pos (by omega)]
  exact rdo_far ths M n a0 a1 a2 a3 L B w hx hL hB (by omega) (by omega) (by omega)
 rw [if_neg (by omega)]
 obtain ⟨m, rfl⟩ : ∃ m : Nat, n = (m : Int) := ⟨n.toNat, by omega⟩
 obtain ⟨k, rfl⟩ : ∃ k : Nat, a0 = (k : Int) := ⟨a0.toNat, by have := ha0.1; omega⟩
 rw [Int.toNat_natCast, Int.toNat_natCast]
 have hk : k < 16 := by omega
 have hl : k < ths.length := by rw [hx.len]; exact hk
 have hxk : ths[k]? = some ths[k] := List.getElem?_eq_getElem hl
 have hg : ths.getD k th0 = ths[k] := by rw [List.getD_eq_getElem?_getD, hxk]; rfl
 rw [hg]
 have hox := hok _ (List.getElem_mem hl)
 generalize ths[k] = x at hxk hox
 have hm : m = 0 ∨ m = 1 ∨ m = 2 ∨ m = 3 ∨ m = 4 ∨ m = 5 ∨ m = 6 ∨ m = 7 ∨ m = 8 ∨ m = 9 ∨ m = 10 ∨ m = 11 ∨ m = 12 ∨ m = 13 ∨ m = 14 ∨ m = 15 ∨ m = 16 ∨ m = 17 ∨ m = 18 := by omega
 rcases hm with rfl | rfl | rfl | rfl | rfl | rfl | rfl | rfl | rfl | rfl | rfl | rfl | rfl | rfl | rfl | rfl | rfl | rfl | rfl
 ·exact rdo_qn ths M 0 k a1 a2 a3 x ⟨#[110, 101, 119]⟩ L B w hx hL hB (by decide) hk hxk rfl hox ha1 ha2 (by rfl) (by decide) (fun vs V h hV => rq_new x.q vs a1 L B V h (Nat.le_trans hL hV) (Nat.le_trans hB hV) hox.q ha1)
 ·exact rdo_qn ths M 1 k a1 a2 a3 x ⟨#[112, 117, 116]⟩ L B w hx hL hB (by decide) hk hxk rfl hox ha1 ha2 (by rfl) (by decide) (fun vs V h hV => rq_put x.q vs a1 L B V h (Nat.le_trans hL hV) (Nat.le_trans hB hV) hox.q ha1)
 ·exact rdo_qn ths M 2 k a1 a2 a3 x ⟨#[116, 97, 107, 101]⟩ L B w hx hL hB (by decide) hk hxk rfl hox ha1 ha2 (by rfl) (by decide) (fun vs V h hV => rq_take x.q vs a1 L B V h (Nat.le_trans hL hV) (Nat.le_trans hB hV) hox.q ha1)
 ·exact rdo_qn ths M 3 k a1 a2 a3 x ⟨#[112, 101, 101, 107]⟩ L B w hx hL hB (by decide) hk hxk rfl hox ha1 ha2 (by rfl) (by decide) (fun vs V h hV => rq_peek x.q vs a1 L B V h (Nat.le_trans hL hV) (Nat.le_trans hB hV) hox.q ha1)
 ·exact rdo_qn ths M 4 k a1 a2 a3 x ⟨#[115, 105, 122, 101]⟩ L B w hx hL hB (by decide) hk hxk rfl hox ha1 ha2 (by rfl) (by decide) (fun vs V h hV => rq_size x.q vs a1 L B V h (Nat.le_trans hL hV) (Nat.le_trans hB hV) hox.q ha1)
 ·exact rdo_qn ths M 5 k a1 a2 a3 x ⟨#[100, 114, 111, 112]⟩ L B w hx hL hB (by decide) hk hxk rfl hox ha1 ha2 (by rfl) (by decide) (fun vs V h hV => rq_drop x.q vs a1 L B V h (Nat.le_trans hL hV) (Nat.le_trans hB hV) hox.q ha1)
 ·exact rdo_cn ths M 6 k a1 a2 a3 x ⟨#[110, 101, 119]⟩ L B w hx hL hB (by decide) hk hxk rfl hox ha1 ha2 (by rfl) (by decide) (fun vs V h hV => rc_new x.c vs a1 L B V h (Nat.le_trans hL hV) (Nat.le_trans hB hV) hox.c ha1)
 ·exact rdo_cn ths M 7 k a1 a2 a3 x ⟨#[97, 100, 100]⟩ L B w hx hL hB (by decide) hk hxk rfl hox ha1 ha2 (by rfl) (by decide) (fun vs V h hV => rc_add x.c vs a1 L B V h (Nat.le_trans hL hV) (Nat.le_trans hB hV) hox.c ha1)
 ·exact rdo_cn ths M 8 k a1 a2 a3 x ⟨#[100, 101, 108]⟩ L B w hx hL hB (by decide) hk hxk rfl hox ha1 ha2 (by rfl) (by decide) (fun vs V h hV => rc_del x.c vs a1 L B V h (Nat.le_trans hL hV) (Nat.le_trans hB hV) hox.c ha1)
 ·exact rdo_cn ths M 9 k a1 a2 a3 x ⟨#[104, 97, 115]⟩ L B w hx hL hB (by decide) hk hxk rfl hox ha1 ha2 (by rfl) (by decide) (fun vs V h hV => rc_has x.c vs a1 L B V h (Nat.le_trans hL hV) (Nat.le_trans hB hV) hox.c ha1)
 ·exact rdo_cn ths M 10 k a1 a2 a3 x ⟨#[108, 101, 97, 115, 116]⟩ L B w hx hL hB (by decide) hk hxk rfl hox ha1 ha2 (by rfl) (by decide) (fun vs V h hV => rc_least x.c vs a1 L B V h (Nat.le_trans hL hV) (Nat.le_trans hB hV) hox.c ha1)
 ·exact rdo_cn ths M 11 k a1 a2 a3 x ⟨#[115, 105, 122, 101]⟩ L B w hx hL hB (by decide) hk hxk rfl hox ha1 ha2 (by rfl) (by decide) (fun vs V h hV => rc_size x.c vs a1 L B V h (Nat.le_trans hL hV) (Nat.le_trans hB hV) hox.c ha1)
 ·exact rdo_cn ths M 12 k a1 a2 a3 x ⟨#[100, 114, 111, 112]⟩ L B w hx hL hB (by decide) hk hxk rfl hox ha1 ha2 (by rfl) (by decide) (fun vs V h hV => rc_drop x.c vs a1 L B V h (Nat.le_trans hL hV) (Nat.le_trans hB hV) hox.c ha1)
 ·exact rdo_tn ths M 13 k a1 a2 a3 x ⟨#[110, 101, 119]⟩ L B w hx hL hB (by decide) hk hxk rfl hox ha1 ha2 (by rfl) (by decide) (fun vs V h hV => rt_new x.t vs a1 a2 L B V h (Nat.le_trans hL hV) (Nat.le_trans hB hV) hox.t ha1 ha2)
 ·exact rdo_tn ths M 14 k a1 a2 a3 x ⟨#[112, 117, 116]⟩ L B w hx hL hB (by decide) hk hxk rfl hox ha1 ha2 (by rfl) (by decide) (fun vs V h hV => rt_put x.t vs a1 a2 L B V h (Nat.le_trans hL hV) (Nat.le_trans hB hV) hox.t ha1 ha2)
 ·exact rdo_tn ths M 15 k a1 a2 a3 x ⟨#[103, 101, 116]⟩ L B w hx hL hB (by decide) hk hxk rfl hox ha1 ha2 (by rfl) (by decide) (fun vs V h hV => rt_get x.t vs a1 a2 L B V h (Nat.le_trans hL hV) (Nat.le_trans hB hV) hox.t ha1 ha2)
 ·exact rdo_tn ths M 16 k a1 a2 a3 x ⟨#[100, 101, 108]⟩ L B w hx hL hB (by decide) hk hxk rfl hox ha1 ha2 (by rfl) (by decide) (fun vs V h hV => rt_del x.t vs a1 a2 L B V h (Nat.le_trans hL hV) (Nat.le_trans hB hV) hox.t ha1 ha2)
 ·exact rdo_tn ths M 17 k a1 a2 a3 x ⟨#[115, 105, 122, 101]⟩ L B w hx hL hB (by decide) hk hxk rfl hox ha1 ha2 (by rfl) (by decide) (fun vs V h hV => rt_size x.t vs a1 a2 L B V h (Nat.le_trans hL hV) (Nat.le_trans hB hV) hox.t ha1 ha2)
 ·exact rdo_tn ths M 18 k a1 a2 a3 x ⟨#[100, 114, 111, 112]⟩ L B w hx hL hB (by decide) hk hxk rfl hox ha1 ha2 (by rfl) (by decide) (fun vs V h hV => rt_drop x.t vs a1 a2 L B V h (Nat.le_trans hL hV) (Nat.le_trans hB hV) hox.t ha1 ha2)
end Go.Proofs.YtiiaingepbkikaaGreatDoor
namespace Go.Proofs.YtiiaingepbkikaaGreatDoor
open Go.ChangeShapes Go.WideShapes Go.RowKit Go.Deep
set_option linter.unusedVariables false
section
variable {H : Type} {enc : TypeId × Value → H} {P : Program} {w : World} {base : Nat} {spare : Nat → Bool} {held : Bool}
theorem flat_at {α : Type} (cells : α → List Value) {size : Nat} (hc : ∀ y, (cells y).length = size) (hs : 0 < size) : ∀ (l : List α) (j : Nat) (u : Value), (l.flatMap cells)[j]? = some u → ∃ i y, l[i]? = some y ∧ j = i * size + j % size ∧ (cells y)[j % size]? = some u
 | [], j, u, h => by simp at h
 | y :: l, j, u, h => by
   rw [List.flatMap_cons] at h
   by_cases hj : j < size
   ·rw [List.getElem?_append_left (by rw [hc]; exact hj)] at h
    exact ⟨0, y, rfl, by rw [Nat.mod_eq_of_lt hj]; omega, by rw [Nat.mod_eq_of_lt hj]; exact h⟩
   ·rw [List.getElem?_append_right (by rw [hc]; omega), hc] at h
    obtain ⟨i, z, hz, he, hu⟩ := flat_at cells hc hs l (j - size) u h
    have hm : (j - size) % size = j % size := by rw [← Nat.add_mod_right, Nat.sub_add_cancel (by omega)]
    rw [hm] at he hu
    exact ⟨i + 1, z, by simpa using hz, by rw [Nat.add_mul]; omega, hu⟩
theorem flat_len {α : Type} (cells : α → List Value) {size : Nat} (hc : ∀ y, (cells y).length = size) (l : List α) : (l.flatMap cells).length = l.length * size := by
 induction l with
 | nil => simp
 | cons y l ih => rw [List.flatMap_cons, List.length_append, hc, ih, List.length_cons, Nat.add_mul]; omega
theorem list_of {α : Type} (Q : Nat → α → Prop) : ∀ n : Nat, (∀ i, i < n → ∃ y, Q i y) → ∃ l : List α, l.length = n ∧ ∀ i y, l[i]? = some y → Q i y
 | 0, _ => ⟨[], rfl, fun i y h => by simp at h⟩
 | n + 1, h => by
   obtain ⟨l, hl, hq⟩ := list_of Q n (fun i hi => h i (by omega))
   obtain ⟨y, hy⟩ := h n (by omega)
   refine ⟨l ++ [y], by simp [hl], fun i z hz => ?_⟩
   by_cases hi : i < n
   ·rw [List.getElem?_append_left (by omega)] at hz
    exact hq i z hz
   ·rw [List.getElem?_append_right (by omega)] at hz
    have h0 : i - l.length = 0 := by
     rcases Nat.eq_zero_or_pos (i - l.length) with h | h
     ·exact h
     ·rw [List.getElem?_eq_none (by simp; omega)] at hz; cases hz
    rw [h0] at hz
    obtain rfl : y = z := by simpa using hz
    obtain rfl : i = n := by omega
    exact hy
theorem read_slice {α : Type} (cells : α → List Value) (good : α → Prop) {size : Nat} (hcs : ∀ y, (cells y).length = size) (hs : 0 < size) {r : Reach} {b0 : Nat} {t e : TypeId} {v : Value} {d : DataW H} {p : List MemPlace}
 (ht : P.underlying t = some (.slice e)) (hC : P.cellsOf e = size) (hel : ∀ n cs x, DataW.trod enc P w base spare held n e cs = some x → ∃ y, cs = cells y ∧ good y)
 (hval : Value.okWide P w r b0 t v) (h : DataW.Trod enc P w base spare held t v d p) :
 ∃ A n c, ∃ l : List α, v = .slice A n c ∧ Rd w w.heap.size size A n (l.flatMap cells) ∧ l.length = n ∧ (∀ y ∈ l, good y) ∧ n ≤ c := by
 obtain ⟨A, n, c, rfl⟩ := okWide_slice ht hval
 obtain ⟨fuel, hf⟩ := h
 rcases Deep.open_slice ht hf with ⟨hv, _⟩ | ⟨a, len, cap, m, q, D, Pl, hv, hb, hl, hm, hmm, hx, hi⟩
 ·simp [Value.cells] at hv
  obtain ⟨rfl, rfl, rfl⟩ := hv
  exact ⟨none, 0, 0, [], rfl, Rd.nil _ _ _ _, rfl, fun y hy => by simp at hy, Nat.le_refl _⟩
 ·simp [Value.cells] at hv
  obtain ⟨rfl, rfl, rfl⟩ := hv
  have hle : n ≤ m := by rw [hmm]; split <;> omega
  have hQ : ∀ i, i < n → ∃ y : α, good y ∧ ∀ j u, (cells y)[j]? = some u → w.cell? (a.add (i * size + j)) = some u := by
   intro i hin
   obtain ⟨cs', hc, htr⟩ := hi i (by omega)
   obtain ⟨y, rfl, hg⟩ := hel _ _ _ htr
   rw [hC] at hc
   obtain ⟨_, hcl, hat⟩ := World.cells?_some hc
   refine ⟨y, hg, fun j u hu => ?_⟩
   have hj : j < size := by rw [← hcs y]; exact (List.getElem?_eq_some_iff.1 hu).1
   have := hat j hj
   rw [hu] at this
   rw [← Deep.add_add]
   exact this
  obtain ⟨l, hll, hlq⟩ := list_of _ n hQ
  refine ⟨_, n, c, l, rfl, ⟨by rw [flat_len cells hcs, hll], by omega, fun hn => ?_⟩, hll, fun y hy => ?_, hl⟩
  ·obtain ⟨y0, hy0⟩ : ∃ y, l[0]? = some y := ⟨l[0]'(by omega), List.getElem?_eq_getElem _⟩
   obtain ⟨u0, hu0⟩ : ∃ u, (cells y0)[0]? = some u := ⟨(cells y0)[0]'(by rw [hcs]; omega), List.getElem?_eq_getElem _⟩
   have h0 := (hlq 0 y0 hy0).2 0 u0 hu0
   have hsp : a.spot = none := by simpa [Addr.add] using World.cell?_spot h0
   obtain ⟨b, o, sp⟩ := a
   subst hsp
   have hblk := World.block_lt_of_cell? w _ h0
   refine ⟨b, o, rfl, by simpa [Addr.add] using hblk, fun j u hu => ?_⟩
   obtain ⟨i, y, hy, hj, hu'⟩ := flat_at cells hcs hs l j u hu
   have := (hlq i y hy).2 (j % size) u hu'
   rw [← hj] at this
   unfold Addr.add at this
   split at this
   ·rename_i h0; rw [h0]; exact this
   ·exact this
  ·obtain ⟨i, hi', he⟩ := List.getElem_of_mem hy
   exact (hlq i y (by rw [List.getElem?_eq_getElem hi', he])).1
theorem wf_i64 {n : Int} (h : (Lit.int .i64 n).wf = true) : -9223372036854775808 ≤ n ∧ n ≤ 9223372036854775807 := by
 simpa [Lit.wf, IntKind.min, IntKind.max, IntKind.signed, IntKind.bits] using h
theorem wf_u64 {n : Int} (h : (Lit.int .u64 n).wf = true) : 0 ≤ n ∧ n ≤ 18446744073709551615 := by
 simpa [Lit.wf, IntKind.min, IntKind.max, IntKind.signed, IntKind.bits] using h
end
end Go.Proofs.YtiiaingepbkikaaGreatDoor
namespace Go.Proofs.YtiiaingepbkikaaGreatDoor
open Go.ChangeShapes Go.WideShapes Go.RowKit Go.Deep
set_option linter.unusedVariables false
section
variable {H : Type} {enc : TypeId × Value → H} {P : Program} {w : World} {base : Nat} {spare : Nat → Bool} {held : Bool}
theorem flat_one {α : Type} (f : α → Value) : ∀ l : List α, l.flatMap (fun x => [f x]) = l.map f
 | [] => rfl
 | x :: l => by rw [List.flatMap_cons, flat_one f l]; rfl
end
section
variable {H : Type} {enc : TypeId × Value → H} {w : World} {base : Nat} {spare : Nat → Bool} {held : Bool}
theorem c_int : Tryz.prog.cellsOf 3 = 1 := by kernel_rfl
theorem c_u64 : Tryz.prog.cellsOf 32 = 1 := by kernel_rfl
theorem c_errno : Tryz.prog.cellsOf 24 = 1 := by kernel_rfl
theorem c_args : Tryz.prog.cellsOf 49 = 4 := by kernel_rfl
theorem some_of {α : Type} {l : List α} {n i : Nat} (hl : l.length = n) (hi : i < n) : ∃ y, l[i]? = some y := ⟨_, List.getElem?_eq_getElem (by omega)⟩
end
abbrev tabs3 : List (String × DataW Unit) := [("math/bits.deBruijn32tab", Rows.laid_math_bits_deBruijn32tab), ("math/bits.deBruijn64tab", Rows.laid_math_bits_deBruijn64tab), ("internal/strconv.uint64pow10", Rows.laid_internal_strconv_uint64pow10)]
theorem pow_laid : (Rows.laid_internal_strconv_uint64pow10 : DataW Unit) = Lib.tabData .u64 Lib.pow10Tab := by kernel_rfl
theorem gPow : Tryz.prog.globalNamed "internal/strconv.uint64pow10" = some 1 := by kernel_rfl
theorem tPow : (Tryz.prog.globals[1]?).map (·.type) = some 174 := by kernel_rfl
theorem pow_of_laid {W : World} (h : laidMetH Tryz.prog tabs3 W) : PowTab W := by
 rw [MakeChecks.laidMetH_plain _ _ _ (by kernel_rfl)] at h
 obtain ⟨ps, ⟨g0, t0, cs0, f0, p0, q0, hg0, ht0, hv0, hd0, ⟨g1, t1, cs1, f1, p1, q1, hg1, ht1, hv1, hd1, ⟨g2, t2, cs2, f2, p2, q2, hg2, ht2, hv2, hd2, _, _⟩, _⟩, _⟩, _, _⟩ := h
 obtain rfl := Option.some.inj (gPow.symm.trans hg2)
 obtain rfl := Option.some.inj (tPow.symm.trans ht2)
 rw [pow_laid] at hd2
 show _ = _
 rw [hv2, ← Lib.cells_of_tab Tryz.underlying174 Tryz.underlying32 (by kernel_rfl) (by kernel_rfl) hd2]
theorem met_laidAll (os : Os) (args : Array Value) : laidMetH Tryz.prog tabs3 ((World.laidAll Tryz.prog os tabs3).forCall (fun _ _ => 0) ⟨#[], args, []⟩).memory := by
 rw [MakeChecks.laidMetH_plain _ _ _ (by kernel_rfl)]; exact laidMet_laidAll _ (by kernel_rfl) (by kernel_rfl)
end Go.Proofs.YtiiaingepbkikaaGreatDoor
namespace Go.Proofs.YtiiaingepbkikaaGreatDoor
open Go.ChangeShapes Go.WideShapes Go.RowKit Go.Deep
set_option linter.unusedVariables false
structure Q4 where
 a0 : Int
 a1 : Int
 a2 : Int
 a3 : Int
def Q4.cells (q : Q4) : List Value := [.int .u64 q.a0, .int .u64 q.a1, .int .u64 q.a2, .int .u64 q.a3]
structure Q4.Ok (q : Q4) : Prop where
 a0 : U64' q.a0
 a1 : U64' q.a1
 a2 : U64' q.a2
abbrev RdQ (w : World) (B : Nat) (A : Option Addr) (n : Nat) (l : List Q4) : Prop := Rd w B 4 A n (l.flatMap Q4.cells)
abbrev RdN (w : World) (B : Nat) (A : Option Addr) (n : Nat) (l : List Int) : Prop := Rd w B 1 A n (l.map (Value.int .i64))
def I64' (x : Int) : Prop := -9223372036854775808 ≤ x ∧ x ≤ 9223372036854775807
section
variable {H : Type} {enc : TypeId × Value → H} {w : World} {base : Nat} {spare : Nat → Bool} {held : Bool}
set_option maxRecDepth 100000 in
theorem read_ints {r : Reach} {b0 : Nat} {v : Value} {d : DataW H} {p : List MemPlace} (hval : Value.okWide Tryz.prog w r b0 22 v) (h : DataW.Trod enc Tryz.prog w base spare held 22 v d p) :
 ∃ A n c l, v = .slice A n c ∧ RdN w w.heap.size A n l ∧ n ≤ c := by
 obtain ⟨A, n, c, l, hv, hr, _, hg, hc⟩ := read_slice (fun x : Int => [Value.int .i64 x]) (fun x => True) (size := 1) (fun _ => rfl) (by decide) Tryz.underlying22 c_int
  (fun n cs x hx => by obtain ⟨z, hz, _, hw⟩ := DataW.trod_int Tryz.underlying3 hx; exact ⟨z, hz, trivial⟩) hval h
 refine ⟨A, n, c, l, hv, ?_, hc⟩
 show Rd _ _ _ _ _ _
 rw [← flat_one]; exact hr
set_option maxRecDepth 100000 in
theorem trod_q4 {n : Nat} {cs : List Value} {x : DataW H × List MemPlace} (hf : DataW.trod enc Tryz.prog w base spare held n 49 cs = some x) : ∃ q : Q4, cs = q.cells ∧ q.Ok := by
 obtain ⟨us, m2, _, hl, hlen, hu, hga⟩ := DataW.trod_array Tryz.underlying49 hf
 obtain ⟨x0, f0⟩ := some_of hu (i := 0) (by omega)
 obtain ⟨x1, f1⟩ := some_of hu (i := 1) (by omega)
 obtain ⟨x2, f2⟩ := some_of hu (i := 2) (by omega)
 obtain ⟨x3, f3⟩ := some_of hu (i := 3) (by omega)
 have a0 := hga 0 (by omega)
 have a1 := hga 1 (by omega)
 have a2 := hga 2 (by omega)
 have a3 := hga 3 (by omega)
 rw [c_u64, f0] at a0
 rw [c_u64, f1] at a1
 rw [c_u64, f2] at a2
 rw [c_u64, f3] at a3
 have hcs : cs.length = 4 := by
  first | (rw [c_args] at hlen; exact hlen) | (rw [c_u64] at hlen; simpa using hlen)
 match cs, hcs with
 | [c0, c1, c2, c3], _ =>
   simp at a0 a1 a2 a3
   obtain ⟨n0, p0, _, v0⟩ := DataW.trod_int Tryz.underlying32 a0
   obtain ⟨n1, p1, _, v1⟩ := DataW.trod_int Tryz.underlying32 a1
   obtain ⟨n2, p2, _, v2⟩ := DataW.trod_int Tryz.underlying32 a2
   obtain ⟨n3, p3, _, v3⟩ := DataW.trod_int Tryz.underlying32 a3
   simp only [List.cons.injEq, and_true] at p0 p1 p2 p3
   subst p0 p1 p2 p3
   exact ⟨⟨n0, n1, n2, n3⟩, rfl, wf_u64 v0, wf_u64 v1, wf_u64 v2⟩
set_option maxRecDepth 100000 in
theorem read_quads {r : Reach} {b0 : Nat} {v : Value} {d : DataW H} {p : List MemPlace} (hval : Value.okWide Tryz.prog w r b0 23 v) (h : DataW.Trod enc Tryz.prog w base spare held 23 v d p) :
 ∃ A n c l, v = .slice A n c ∧ RdQ w w.heap.size A n l ∧ (∀ q ∈ l, q.Ok) ∧ l.length = n ∧ n ≤ c := by
 obtain ⟨A, n, c, l, hv, hr, hl, hg, hc⟩ := read_slice Q4.cells Q4.Ok (size := 4) (fun _ => rfl) (by decide) Tryz.underlying23 c_args (fun n cs x hx => trod_q4 hx) hval h
 exact ⟨A, n, c, l, hv, hr, hg, hl, hc⟩
set_option maxRecDepth 100000 in
theorem read_fault {r : Reach} {b0 : Nat} {v : Value} {d : DataW H} {p : List MemPlace} (hval : Value.okWide Tryz.prog w r b0 26 v) (h : DataW.Trod enc Tryz.prog w base spare held 26 v d p) :
 ∃ a b, v = .agg #[.int .i64 a, .int .i64 b] ∧ I64' a ∧ I64' b := by
 obtain ⟨cs, rfl, hsz⟩ := okWide_struct Tryz.underlying26 hval
 obtain ⟨fuel, hf⟩ := h
 obtain ⟨xs, n', _, hx, hl, hlen, hg⟩ := DataW.trod_struct Tryz.underlying26 hf
 rw [show Tryz.prog.cellsOf 26 = 2 by kernel_rfl] at hsz
 clear hf hl
 have hlen8 : xs.length = 2 := hlen
 cases cs with | mk cs =>
 have hcs : cs.length = 2 := hsz
 match cs, hcs with
 | [c0, c1], _ =>
   obtain ⟨y0, e0⟩ := some_of hlen8 (i := 0) (by omega)
   obtain ⟨y1, e1⟩ := some_of hlen8 (i := 1) (by omega)
   have g0 : DataW.trod enc Tryz.prog w base spare held n' 3 (([c0, c1].drop 0).take (Tryz.prog.cellsOf 3)) = xs[0]? := hg 0 _ rfl
   have g1 : DataW.trod enc Tryz.prog w base spare held n' 24 (([c0, c1].drop 1).take (Tryz.prog.cellsOf 24)) = xs[1]? := hg 1 _ rfl
   rw [c_int, e0] at g0
   rw [c_errno, e1] at g1
   simp at g0 g1
   obtain ⟨z0, q0, _, w0⟩ := DataW.trod_int Tryz.underlying3 g0
   obtain ⟨z1, q1, _, w1⟩ := DataW.trod_int Tryz.underlying24 g1
   simp only [List.cons.injEq, and_true] at q0 q1
   subst q0 q1
   exact ⟨z0, z1, rfl, wf_i64 w0, wf_i64 w1⟩
set_option maxRecDepth 100000 in
theorem read_report {r : Reach} {b0 : Nat} {v : Value} {d : DataW H} {p : List MemPlace} (hval : Value.okWide Tryz.prog w r b0 28 v) (h : DataW.Trod enc Tryz.prog w base spare held 28 v d p) :
 ∃ a b c, v = .agg #[.int .i64 a, .int .i64 b, .int .i64 c] ∧ I64' a ∧ I64' b ∧ I64' c := by
 obtain ⟨cs, rfl, hsz⟩ := okWide_struct Tryz.underlying28 hval
 obtain ⟨fuel, hf⟩ := h
 obtain ⟨xs, n', _, hx, hl, hlen, hg⟩ := DataW.trod_struct Tryz.underlying28 hf
 rw [show Tryz.prog.cellsOf 28 = 3 by kernel_rfl] at hsz
 clear hf hl
 have hlen8 : xs.length = 3 := hlen
 cases cs with | mk cs =>
 have hcs : cs.length = 3 := hsz
 match cs, hcs with
 | [c0, c1, c2], _ =>
   obtain ⟨y0, e0⟩ := some_of hlen8 (i := 0) (by omega)
   obtain ⟨y1, e1⟩ := some_of hlen8 (i := 1) (by omega)
   obtain ⟨y2, e2⟩ := some_of hlen8 (i := 2) (by omega)
   have g0 : DataW.trod enc Tryz.prog w base spare held n' 3 (([c0, c1, c2].drop 0).take (Tryz.prog.cellsOf 3)) = xs[0]? := hg 0 _ rfl
   have g1 : DataW.trod enc Tryz.prog w base spare held n' 3 (([c0, c1, c2].drop 1).take (Tryz.prog.cellsOf 3)) = xs[1]? := hg 1 _ rfl
   have g2 : DataW.trod enc Tryz.prog w base spare held n' 3 (([c0, c1, c2].drop 2).take (Tryz.prog.cellsOf 3)) = xs[2]? := hg 2 _ rfl
   rw [c_int, e0] at g0
   rw [c_int, e1] at g1
   rw [c_int, e2] at g2
   simp at g0 g1 g2
   obtain ⟨z0, q0, _, w0⟩ := DataW.trod_int Tryz.underlying3 g0
   obtain ⟨z1, q1, _, w1⟩ := DataW.trod_int Tryz.underlying3 g1
   obtain ⟨z2, q2, _, w2⟩ := DataW.trod_int Tryz.underlying3 g2
   simp only [List.cons.injEq, and_true] at q0 q1 q2
   subst q0 q1 q2
   exact ⟨z0, z1, z2, rfl, wf_i64 w0, wf_i64 w1, wf_i64 w2⟩
end
end Go.Proofs.YtiiaingepbkikaaGreatDoor
namespace Go.Proofs.YtiiaingepbkikaaGreatDoor
open Go.RowKit
set_option linter.unusedVariables false
def aRec : Rec := ⟨1, 2, 0, 7, 0, 0, 0, 3, 9, 5, true, 40, 4⟩
theorem aDec : dec 0 = [48] ∧ dec 1 = [49] ∧ dec 2 = [50] ∧ dec 3 = [51] ∧ dec 4 = [52] ∧ dec 5 = [53] ∧ dec 6 = [54] ∧ dec 7 = [55] ∧ dec 9 = [57] ∧ dec 20 = [50, 48] := by
 refine ⟨?_, ?_, ?_, ?_, ?_, ?_, ?_, ?_, ?_, ?_⟩
 case refine_10 => show Lib.decDigits 20 = _; rw [Lib.decDigits_two (by omega) (by omega)]; rfl
 all_goals exact dec_small (by decide)
theorem aItoa : Lib.itoa 1 = [49] ∧ Lib.itoa 2 = [50] ∧ Lib.itoa 3 = [51] ∧ Lib.itoa 4 = [52] ∧ Lib.itoa 5 = [53] ∧ Lib.itoa 9 = [57] ∧ Lib.itoa 20 = [50, 48] := by
 obtain ⟨h0, h1, h2, h3, h4, h5, h6, h7, h9, h20⟩ := aDec
 refine ⟨?_, ?_, ?_, ?_, ?_, ?_, ?_⟩ <;> (rw [itoa_pos (by decide)]; assumption)
theorem aRecord : str (recordP [⟨#[111, 110, 101]⟩] aRec) = ⟨#[98, 32, 50, 32, 111, 110, 101, 32, 55, 32, 48, 32, 48, 32, 48, 32, 58, 32, 51, 32, 57, 32, 53, 32, 61, 32, 97, 98, 111, 114, 116, 32, 52, 10]⟩ := by
 obtain ⟨h0, h1, h2, h3, h4, h5, h6, h7, h9, h20⟩ := aDec
 obtain ⟨i1, i2, i3, i4, i5, i9, i20⟩ := aItoa
 simp [str, recordP, lineP, partsP, aRec, whoP, progP, resultP, h0, h4, h7, i2, i3, i9, i5, Lib.join_cons, Lib.joinTail]
theorem aThing : str (thingP 3 #[113, 117, 101, 117, 101].toList 5 ([1, 2].map dec)) = ⟨#[51, 32, 113, 117, 101, 117, 101, 32, 53, 32, 58, 32, 49, 32, 50, 10]⟩ := by
 obtain ⟨h0, h1, h2, h3, h4, h5, h6, h7, h9, h20⟩ := aDec
 obtain ⟨i1, i2, i3, i4, i5, i9, i20⟩ := aItoa
 simp [str, thingP, lineP, h1, h2, h5, i3, Lib.join_cons, Lib.joinTail]
theorem aFault : str (faultP 2 20) = ⟨#[108, 105, 110, 101, 32, 50, 32, 101, 114, 114, 111, 114, 32, 50, 48, 10]⟩ := by
 obtain ⟨i1, i2, i3, i4, i5, i9, i20⟩ := aItoa
 simp [str, faultP, lineP, wordP, i2, i20, Lib.join_cons, Lib.joinTail]
theorem aSums : str (sumsP 1 2 3 4) = ⟨#[112, 105, 99, 107, 115, 32, 49, 32, 115, 119, 97, 112, 115, 32, 50, 32, 119, 111, 114, 100, 115, 32, 51, 32, 108, 105, 109, 98, 111, 32, 52, 10]⟩ := by
 obtain ⟨i1, i2, i3, i4, i5, i9, i20⟩ := aItoa
 simp [str, sumsP, lineP, i1, i2, i3, i4, Lib.join_cons, Lib.joinTail]
theorem aWord : str (wordP 43) = ⟨#[109, 101, 109]⟩ := by simp [str, wordP]
theorem aResult : str (resultP 0 6) = ⟨#[54]⟩ := by
 obtain ⟨h0, h1, h2, h3, h4, h5, h6, h7, h9, h20⟩ := aDec
 simp [str, resultP, h6]
end Go.Proofs.YtiiaingepbkikaaGreatDoor
namespace Go.Proofs.YtiiaingepbkikaaGreatDoor
open Go.RowKit
set_option linter.unusedVariables false
set_option maxRecDepth 100000 in
set_option maxHeartbeats 8000000 in
theorem alive_any (w : World) (htab : PowTab w) : Calls Tryz.prog 4 #[] w fun e w' => e = .returned (.bool true) ∧ Below w.heap.size w w' := by
 have HT := Lib.hid htab
 clear htab
 go_enter Tryz.func4, Tryz.ntmps4
 go_wp2_with fail
 refine (new_any _).mono ?_
 rintro e W1 ⟨rfl, rfl⟩
 go_wp2_with fail
 obtain ⟨X3, hX3⟩ : ∃ X3, ((w.alloc (.cells #[.int .i64 1, .int .i64 2, .int .i64 0, .int .u64 7, .int .u64 0, .int .u64 0, .int .u64 0, .int .i64 3, .int .i64 9, .int .i64 5, .bool true, .int .i64 40, .int .u64 4] 65)).alloc (.cells noThings 80)).alloc (.cells #[.string ⟨#[111, 110, 101]⟩] 9) = X3 := ⟨_, rfl⟩
 have HB3 : Hid (Below w.heap.size w X3) := by
  show Below _ _ _
  rw [← hX3]
  exact (((Below.refl _ _).alloc (Nat.le_refl _) _).alloc (by simp) _).alloc (by simp; omega) _
 have HBW : Hid (Bk X3 (w.heap.size + 1) 80 noThings) := by
  show Bk _ _ _ _
  rw [← hX3]
  have := (Bk.new (w.alloc (.cells #[.int .i64 1, .int .i64 2, .int .i64 0, .int .u64 7, .int .u64 0, .int .u64 0, .int .u64 0, .int .i64 3, .int .i64 9, .int .i64 5, .bool true, .int .i64 40, .int .u64 4] 65)) 80 noThings).alloc (.cells #[.string ⟨#[111, 110, 101]⟩] 9)
  simpa using this
 have HRs : Hid (RdS X3 X3.heap.size (some ⟨w.heap.size + 1 + 1, 0, none⟩) 1 [⟨#[111, 110, 101]⟩]) := by
  show RdS _ _ _ _ _
  rw [← hX3]
  have := Rd.newAt ((w.alloc (.cells #[.int .i64 1, .int .i64 2, .int .i64 0, .int .u64 7, .int .u64 0, .int .u64 0, .int .u64 0, .int .i64 3, .int .i64 9, .int .i64 5, .bool true, .int .i64 40, .int .u64 4] 65)).alloc (.cells noThings 80)) #[.string ⟨#[111, 110, 101]⟩] 9 (w.heap.size + 1 + 1) (by simp) (size := 1) (m := 1) rfl (by simp [maxLen])
  exact this.more (by simp)
 rw [hX3]
 clear hX3
 refine (record_any [⟨#[111, 110, 101]⟩] _ 1 1 aRec _ HRs.out ⟨by decide, by decide, by decide, by decide, by decide, by decide, by decide, by decide, by decide, by decide, by decide, by decide⟩ (by decide) (by decide) (HT.out.below HB3.out)).mono ?_
 rintro e X4 ⟨rfl, hb4⟩
 rw [aRecord]
 have HB4 := Lib.hid (HB3.out.trans (hb4.mono HB3.out.size))
 have HBW4 := Lib.hid (HBW.out.below hb4 HBW.out.lt)
 clear hb4 HBW
 go_wp2_with fail
 have HBX : Hid (Bk ((X4.alloc (.cells #[.int .u64 1, .int .u64 2] 32)).alloc (.cells #[.int .u64 5, .slice (some ⟨X4.heap.size, 0, none⟩) 2 2] 71)) (X4.heap.size + 1) 71 #[.int .u64 5, .slice (some ⟨X4.heap.size, 0, none⟩) 2 2]) := by
  show Bk _ _ _ _
  have := Bk.new (X4.alloc (.cells #[.int .u64 1, .int .u64 2] 32)) 71 #[.int .u64 5, .slice (some ⟨X4.heap.size, 0, none⟩) 2 2]
  simpa using this
 have HB5 : Hid (Below w.heap.size w ((X4.alloc (.cells #[.int .u64 1, .int .u64 2] 32)).alloc (.cells #[.int .u64 5, .slice (some ⟨X4.heap.size, 0, none⟩) 2 2] 71))) := (HB4.out.alloc HB4.out.size _).alloc (by have := HB4.out.size; simp; omega) _
 have HBW5 : Hid (Bk ((X4.alloc (.cells #[.int .u64 1, .int .u64 2] 32)).alloc (.cells #[.int .u64 5, .slice (some ⟨X4.heap.size, 0, none⟩) 2 2] 71)) (w.heap.size + 1) 80 noThings) := (HBW4.out.alloc _).alloc _
 have HRu : Hid (RdU ((X4.alloc (.cells #[.int .u64 1, .int .u64 2] 32)).alloc (.cells #[.int .u64 5, .slice (some ⟨X4.heap.size, 0, none⟩) 2 2] 71)) (X4.heap.size + 1) (some ⟨X4.heap.size, 0, none⟩) 2 [1, 2]) := by
  have := Rd.newAt X4 #[.int .u64 1, .int .u64 2] 32 X4.heap.size rfl (size := 1) (m := 2) rfl (by simp [maxLen])
  exact this.below ((Below.refl _ _).alloc (by simp) _)
 obtain ⟨X5, hX5⟩ : ∃ X5, (X4.alloc (.cells #[.int .u64 1, .int .u64 2] 32)).alloc (.cells #[.int .u64 5, .slice (some ⟨X4.heap.size, 0, none⟩) 2 2] 71) = X5 := ⟨_, rfl⟩
 rw [hX5] at HBX HB5 HBW5 HRu ⊢
 clear hX5 HBW4
 refine (thing_queue 3 5 [1, 2] (X4.heap.size + 1) _ 2 2 _ HBX.out.lt (by rw [HBX.out.cell]; rfl) (by rw [HBX.out.cell]; rfl) (HRu.out.more (Nat.le_of_lt HBX.out.lt)) (by decide) (by decide) (by decide) (by decide) (by decide) (by decide) (HT.out.below HB5.out)).mono ?_
 rintro e X6 ⟨rfl, hb6⟩
 rw [aThing]
 have HB6 := Lib.hid (HB5.out.trans (hb6.mono HB5.out.size))
 have HBW6 := Lib.hid (HBW5.out.below hb6 HBW5.out.lt)
 clear hb6 HBW5 HBX HRu
 go_wp2_with fail
 refine (things_none (w.heap.size + 1) _ HBW6.out.lt (fun i hi => by rw [HBW6.out.cell, noThings, Array.getElem?_replicate, if_pos hi])).mono ?_
 rintro e X7 ⟨rfl, hb7⟩
 have HB7 := Lib.hid (HB6.out.trans (hb7.mono HB6.out.size))
 clear hb7 HBW6
 go_wp2_with fail
 refine (fault_any 2 20 _ (by decide) (by decide) (by decide) (by decide) (HT.out.below HB7.out)).mono ?_
 rintro e X8 ⟨rfl, hb8⟩
 rw [aFault]
 have HB8 := Lib.hid (HB7.out.trans (hb8.mono HB7.out.size))
 clear hb8
 go_wp2_with fail
 refine (sums_any 1 2 3 4 _ (by decide) (HT.out.below HB8.out)).mono ?_
 rintro e X9 ⟨rfl, hb9⟩
 rw [aSums]
 have HB9 := Lib.hid (HB8.out.trans (hb9.mono HB8.out.size))
 clear hb9
 go_wp2_with fail
 refine (word_any 43 (by decide) (by decide) _ (HT.out.below HB9.out)).mono ?_
 rintro e X10 ⟨rfl, hb10⟩
 rw [aWord]
 have HB10 := Lib.hid (HB9.out.trans (hb10.mono HB9.out.size))
 clear hb10
 go_wp2_with fail
 refine (result_any 0 6 (by decide) (by decide) (by decide) (by decide) _ (HT.out.below HB10.out)).mono ?_
 rintro e X11 ⟨rfl, hb11⟩
 rw [aResult]
 have HB11 := Lib.hid (HB10.out.trans (hb11.mono HB10.out.size))
 clear hb11
 go_wp2
 go_ret
 exact ⟨rfl, HB11.out⟩
end Go.Proofs.YtiiaingepbkikaaGreatDoor
