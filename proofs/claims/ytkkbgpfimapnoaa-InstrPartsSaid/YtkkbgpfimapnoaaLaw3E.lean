/-
  Chapter 3, plain laws: what is encoded is decoded, what is decoded is encoded; cut short or longer it is not.
-/
import Derived.Test.YtkkbgpfimapnoaaCtrM
namespace Go.Proofs.Ytkkbgpfimapnoaa
open Go.RowKit
set_option linter.unusedVariables false

theorem numL_zero (n : Int) : numL n 0 = [] := rfl
theorem numL_cons (n : Int) (k : Nat) : numL n (k + 1) = (n % 256) :: numL (n / 256) k := by
  unfold numL
  rw [List.range_succ_eq_map, List.map_cons, List.map_map]
  congr 1
  · simp
  · apply List.map_congr_left
    intro j _
    show n / 256 ^ (j + 1) % 256 = n / 256 / 256 ^ j % 256
    rw [Int.ediv_ediv_of_nonneg (by decide : (0 : Int) ≤ 256), Int.pow_succ, Int.mul_comm 256]
theorem getL_numL (k : Nat) : ∀ n : Int, 0 ≤ n → n < 256 ^ k → getL (numL n k) = n := by
  induction k with
  | zero => intro n h0 h1; simp at h1; simp [numL, getL]; omega
  | succ k ih =>
    intro n h0 h1
    rw [numL_cons, getL, ih (n / 256) (by omega) (by rw [Int.pow_succ] at h1; omega)]
    omega
theorem numL_getL (l : List Int) (h : Byts l) : numL (getL l) l.length = l := by
  induction l with
  | nil => rfl
  | cons b r ih =>
    have hb := h b (by simp)
    rw [List.length_cons, numL_cons, getL]
    have e1 : (b + 256 * getL r) % 256 = b := by omega
    have e2 : (b + 256 * getL r) / 256 = getL r := by omega
    rw [e1, e2, ih (fun x hx => h x (by simp [hx]))]
theorem numL_two (n : Int) : numL n 2 = [n % 256, n / 256 % 256] := by
  rw [numL_cons, numL_cons, numL_zero]

/-- The instruction that bytes begin with. -/
def decHead (r : List Int) : Ins := { op := r.getD 0 0, a := r.getD 1 0, b := r.getD 2 0, c := r.getD 3 0, imm := getL ((r.drop 4).take 8) }
theorem decAt_head (bs : List Int) (k : Nat) : decAt bs k = decHead (bs.drop (4 + 12 * k)) := by
  simp only [decAt, decHead, getD_drop, List.drop_drop, Nat.add_zero]
theorem decHead_ins (i : Ins) (r : List Int) (h : i.Ok) : decHead (insB i ++ r) = i := by
  have e : insB i ++ r = i.op :: i.a :: i.b :: i.c :: (numL i.imm 8 ++ r) := by simp [insB]
  rw [e]
  unfold decHead
  have e2 : getL ((numL i.imm 8 ++ r).take 8) = i.imm := by
    rw [List.take_append_of_le_length (by rw [numL_length]; omega), List.take_of_length_le (by rw [numL_length]; omega)]
    exact getL_numL 8 _ h.imm.1 (by have := h.imm.2; omega)
  simp [e2]
theorem insB_decHead (r : List Int) (hy : Byts r) (hl : 12 ≤ r.length) : insB (decHead r) = r.take 12 := by
  match r, hl with
  | a :: b :: c :: d :: r, hl =>
    have h8 : 8 ≤ r.length := by simp at hl; omega
    have e : numL (getL (r.take 8)) 8 = r.take 8 := by
      have := numL_getL (r.take 8) (fun x hx => hy x (by simp [List.mem_of_mem_take hx]))
      rw [List.length_take, Nat.min_eq_left h8] at this
      exact this
    simp [insB, decHead, e]

theorem bodyB_drop (l : List Ins) (k : Nat) : (bodyB l).drop (12 * k) = bodyB (l.drop k) := by
  induction k generalizing l with
  | zero => simp
  | succ k ih =>
    cases l with
    | nil => simp [bodyB]
    | cons i l =>
      have e : bodyB (i :: l) = insB i ++ bodyB l := rfl
      have e2 : (insB i ++ bodyB l).drop (12 * (k + 1)) = (bodyB l).drop (12 * k) := by
        rw [List.drop_append, List.drop_of_length_le (by rw [insB_length]; omega), insB_length]
        simp
        congr 1
      rw [e, e2, ih]; rfl

/-- The head of an encoding, and the bytes behind it. -/
def headB (n : Int) : List Int := [84, 66, n % 256, n / 256 % 256]
theorem progB_head (l : List Ins) : progB l = headB l.length ++ bodyB l := by
  rw [progB, numL_two]; rfl
theorem decN_head {n : Int} (h0 : 0 ≤ n) (h : n ≤ 256) (r : List Int) : decN (headB n ++ r) = n := by
  show n % 256 + n / 256 % 256 * 256 = n
  omega
theorem decCode_head {n : Int} (h0 : 0 ≤ n) (h : n ≤ 256) (r : List Int) :
    decCode (headB n ++ r) = if (r.length : Int) < 12 * n then 34 else if 12 * n < r.length then 35 else if (decList (headB n ++ r)).all Ins.plain then 0 else 30 := by
  unfold decCode
  rw [decN_head h0 h]
  have e : (headB n ++ r).length = 4 + r.length := by simp [headB]; omega
  rw [e, if_neg (by omega), if_neg (by simp [headB]), if_neg (by omega)]
  have e1 : (((4 + r.length : Nat) : Int) < 4 + 12 * n) ↔ ((r.length : Int) < 12 * n) := by omega
  have e2 : (4 + 12 * n < ((4 + r.length : Nat) : Int)) ↔ (12 * n < (r.length : Int)) := by omega
  simp only [e1, e2]
theorem decList_prog {l : List Ins} (hok : ∀ i ∈ l, i.Ok) (hn : l.length ≤ 256) : decList (progB l) = l := by
  rw [progB_head]
  apply List.ext_getElem?
  intro k
  have hN : decN (headB l.length ++ bodyB l) = (l.length : Int) := decN_head (by omega) (by omega) _
  by_cases hk : k < l.length
  · rw [decList_at hN hk, decAt_head, List.getElem?_eq_getElem hk]
    congr 1
    have e : (headB l.length ++ bodyB l).drop (4 + 12 * k) = bodyB (l.drop k) := by
      rw [List.drop_append, List.drop_of_length_le (by simp [headB]), ← bodyB_drop]
      simp [headB]
    rw [e, List.drop_eq_getElem_cons hk]
    exact decHead_ins _ _ (hok _ (List.getElem_mem hk))
  · rw [List.getElem?_eq_none (by rw [decList_length hN]; omega), List.getElem?_eq_none (by omega)]
theorem decode_prog {l : List Ins} (hok : ∀ i ∈ l, i.Ok) (hn : l.length ≤ 256) (hp : l.all Ins.plain = true) : decCode (progB l) = 0 ∧ decIns (progB l) = l := by
  have e : decCode (progB l) = 0 := by
    have h := decList_prog hok hn
    rw [progB_head] at h ⊢
    rw [decCode_head (by omega) (by omega), h, bodyB_length, if_neg (by omega), if_neg (by omega), if_pos hp]
  exact ⟨e, by rw [decIns, if_pos e, decList_prog hok hn]⟩
theorem decode_cut {l : List Ins} (hn : l.length ≤ 256) {k : Nat} (hk : k < 4 + 12 * l.length) : decCode ((progB l).take k) = 34 := by
  have hl : (progB l).length = 4 + 12 * l.length := by rw [progB_head, List.length_append, bodyB_length]; simp [headB]
  by_cases h4 : k < 4
  · rw [decCode, if_pos (by rw [List.length_take]; omega)]
  · obtain ⟨j, rfl⟩ : ∃ j, k = 4 + j := ⟨k - 4, by omega⟩
    have e : (headB l.length ++ bodyB l).take (4 + j) = headB l.length ++ (bodyB l).take j := by
      rw [List.take_append, List.take_of_length_le (by simp [headB])]
      simp [headB]
    rw [progB_head, e, decCode_head (by omega) (by omega), if_pos (by rw [List.length_take, bodyB_length]; omega)]
theorem decode_more {l : List Ins} (hn : l.length ≤ 256) (z : Int) : decCode (progB l ++ [z]) = 35 := by
  rw [progB_head, List.append_assoc, decCode_head (by omega) (by omega), if_neg (by rw [List.length_append, bodyB_length]; simp; omega), if_pos (by rw [List.length_append, bodyB_length]; simp; omega)]
theorem bodyB_decs {bs : List Int} (hy : Byts bs) (N : Nat) (hl : 4 + 12 * N ≤ bs.length) : bodyB ((List.range N).map (decAt bs)) = (bs.drop 4).take (12 * N) := by
  induction N with
  | zero => simp [bodyB]
  | succ N ih =>
    rw [List.range_succ, List.map_append, List.map_cons, List.map_nil, bodyB_snoc, ih (by omega), decAt_head, insB_decHead _ (fun x hx => hy x (List.mem_of_mem_drop hx)) (by rw [List.length_drop]; omega),
      show 12 * (N + 1) = 12 * N + 12 from by omega, List.take_add, List.drop_drop]
theorem encode_dec {bs : List Int} (hy : Byts bs) (h : decCode bs = 0) : encCode (decIns bs) = 0 ∧ progB (decIns bs) = bs := by
  have hd : decIns bs = decList bs := by rw [decIns, if_pos h]
  rw [hd]
  have y2 := hy.getD_ 2
  have y3 := hy.getD_ 3
  unfold decCode at h
  split at h
  · omega
  rename_i h4
  split at h
  · omega
  rename_i h84
  split at h
  · omega
  rename_i h256
  split at h
  · omega
  rename_i hlo
  split at h
  · omega
  rename_i hhi
  have h0 : 0 ≤ decN bs := by unfold decN; omega
  obtain ⟨N, hN⟩ : ∃ N : Nat, decN bs = N := ⟨(decN bs).toNat, by omega⟩
  have hlen : bs.length = 4 + 12 * N := by omega
  have hll := decList_length hN
  split at h
  · rename_i hp
    refine ⟨by rw [encCode, if_neg (by rw [hll]; omega), if_pos hp], ?_⟩
    rw [progB_head, hll, decList, hN]
    show headB N ++ bodyB ((List.range N).map (decAt bs)) = bs
    rw [bodyB_decs hy N (by omega), List.take_of_length_le (by rw [List.length_drop]; omega)]
    have e : bs.take 4 = headB N := by
      have g0 : bs.getD 0 0 = 84 := by omega
      have g1 : bs.getD 1 0 = 66 := by omega
      unfold decN at hN
      clear h h84 h256 hlo hhi hll hd hlen h0 hy
      rcases bs with _ | ⟨a, _ | ⟨b, _ | ⟨c, _ | ⟨d, r⟩⟩⟩⟩
      all_goals first | (simp at h4; done) | skip
      simp at hN g0 g1 y2 y3
      simp [headB, g0, g1]
      omega
    rw [← e, List.take_append_drop]
  · omega
end Go.Proofs.Ytkkbgpfimapnoaa
