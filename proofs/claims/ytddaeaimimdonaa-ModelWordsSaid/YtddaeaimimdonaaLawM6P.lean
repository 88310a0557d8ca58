/-
  Chapter 6, plain: how many words and roots a program turns; new blocks bear the handles that come next.
-/
import Derived.Test.YtddaeaimimdonaaModL
import Derived.Test.YtddaeaimimdonaaModG
namespace Go.Proofs.Ytddaeaimimdonaa
open Go.RowKit
set_option linter.unusedVariables false

def sumF (d : Nat → Nat) : Nat → Nat
  | 0 => 0
  | n + 1 => sumF d n + d n
theorem sumF_one {d d' : Nat → Nat} {i c : Nat} (h : ∀ k, k ≠ i → d' k ≤ d k) (hi : d' i ≤ d i + c) : ∀ n, sumF d' n ≤ sumF d n + c
  | 0 => by simp [sumF]
  | n + 1 => by
    rw [sumF, sumF]
    by_cases e : n = i
    · subst e
      have : sumF d' n ≤ sumF d n := by
        have hl : ∀ m, m ≤ n → sumF d' m ≤ sumF d m := by
          intro m
          induction m with
          | zero => intro _; exact Nat.le_refl _
          | succ m ih =>
            intro hm
            have h1 := ih (by omega)
            have h2 := h m (by omega)
            rw [sumF, sumF]; omega
        exact hl n (Nat.le_refl _)
      omega
    · have h1 := sumF_one h hi n
      have h2 := h n e
      omega
theorem sumF_zero {d : Nat → Nat} (h : ∀ k, d k = 0) : ∀ n, sumF d n = 0
  | 0 => rfl
  | n + 1 => by rw [sumF, sumF_zero h n, h n]
theorem sumF_le {d : Nat → Nat} {c : Nat} (h : ∀ k, d k ≤ c) : ∀ n, sumF d n ≤ c * n
  | 0 => by simp [sumF]
  | n + 1 => by
    have h1 := sumF_le h n
    have h2 := h n
    rw [sumF, Nat.mul_add]; omega
/-- A list of different numbers below n: what they come to is no more than what all come to. -/
theorem sum_sub (d : Nat → Nat) : ∀ (n : Nat) (l : List Nat), l.Nodup → (∀ x ∈ l, x < n) → (l.map d).sum ≤ sumF d n
  | 0, [], _, _ => Nat.le_refl _
  | 0, x :: l, _, h => by have := h x (by simp); omega
  | n + 1, l, hn, h => by
    by_cases hm : n ∈ l
    · have h1 := sum_sub d n (l.erase n) (hn.erase _) (fun x hx => by
        have hx2 := (hn.mem_erase_iff).1 hx
        have := h x hx2.2
        omega)
      have h2 := ((List.perm_cons_erase hm).map d).sum_nat
      rw [List.map_cons, List.sum_cons] at h2
      rw [sumF]; omega
    · have h1 := sum_sub d n l hn (fun x hx => by
        have := h x hx
        have : x ≠ n := fun e => hm (e ▸ hx)
        omega)
      rw [sumF]; omega
def ne1 (x y : Int) : Nat := if x = y then 0 else 1
/-- How many of so many numbers differ: the new one first. -/
def difN (b a : List Int) (n : Nat) : Nat := sumF (fun k => ne1 (b.getD k 0) (a.getD k 0)) n
theorem ne1_self (x : Int) : ne1 x x = 0 := by simp [ne1]
theorem ne1_le (x y : Int) : ne1 x y ≤ 1 := by unfold ne1; split <;> omega
theorem difN_self (a : List Int) (n : Nat) : difN a a n = 0 := sumF_zero (fun k => ne1_self _) n
theorem difN_set (b a : List Int) (i : Nat) (v : Int) (n : Nat) : difN (b.set i v) a n ≤ difN b a n + 1 := by
  refine sumF_one (i := i) (fun k hk => ?_) ?_ n
  · rw [List.getD_eq_getElem?_getD, List.getD_eq_getElem?_getD, List.getElem?_set_ne (by omega)]; exact Nat.le_refl _
  · have := ne1_le ((b.set i v).getD i 0) (a.getD i 0); omega
/-- How many words of a block differ, if it was there. -/
def difO : Option (List Int) → Option (List Int) → Nat
  | some b, some a => difN b a 8
  | _, _ => 0
theorem difO_le (x y : Option (List Int)) : difO x y ≤ 8 := by
  match x, y with
  | some b, some a => have := sumF_le (d := fun k => ne1 (b.getD k 0) (a.getD k 0)) (fun k => ne1_le _ _) 8; show difN b a 8 ≤ 8; unfold difN; omega
  | some b, none => simp [difO]
  | none, _ => simp [difO]
theorem difO_self (x : Option (List Int)) : difO x x = 0 := by
  match x with
  | some b => exact difN_self b 8
  | none => rfl
def difB (f g : Int → Option (List Int)) : Nat := sumF (fun h => difO (f (h : Int)) (g (h : Int))) 65
theorem difB_self (f : Int → Option (List Int)) : difB f f = 0 := sumF_zero (fun k => difO_self _) 65
theorem difB_upd (f g : Int → Option (List Int)) (x : Int) (o : Option (List Int)) (c : Nat) (hc : ∀ h : Nat, (h : Int) = x → difO o (g x) ≤ difO (f x) (g x) + c) : difB (upd f x o) g ≤ difB f g + c := by
  by_cases hx : ∃ h : Nat, (h : Int) = x
  · obtain ⟨h, rfl⟩ := hx
    refine sumF_one (i := h) (fun k hk => ?_) ?_ 65
    · have : upd f (h : Int) o (k : Int) = f (k : Int) := by unfold upd; rw [if_neg (by omega)]
      rw [this]; exact Nat.le_refl _
    · have : upd f (h : Int) o (h : Int) = o := by unfold upd; rw [if_pos rfl]
      rw [this]; exact hc h rfl
  · have : ∀ k : Nat, upd f x o (k : Int) = f (k : Int) := fun k => by unfold upd; rw [if_neg (fun e => hx ⟨k, e⟩)]
    unfold difB
    simp only [this]
    omega
def difS (s s0 : MSt) : Nat := difN s.roots s0.roots 16 + difB s.blocks s0.blocks
theorem difS_self (s : MSt) : difS s s = 0 := by unfold difS; rw [difN_self, difB_self]
/-- The handles of a state are from 1 to 64. -/
def Few64 (s : MSt) : Prop := ∀ h, (s.blocks h).isSome = true → 1 ≤ h ∧ h ≤ 64
/-- How far a run has come from a state. -/
structure Near (s0 : MSt) (P : List Int) (r : MRun) : Prop where
  dif : (difS r.st s0 : Int) ≤ r.writes
  nine : 9 * (r.news.length : Int) ≤ r.writes
  pick : r.news ++ r.pick = P
  few : Few64 r.st
  pos : ∀ x ∈ P, U64 x
theorem Near.of {s0 : MSt} {P : List Int} {r r' : MRun} (h : Near s0 P r) (h1 : r'.st = r.st) (h2 : r'.writes = r.writes) (h3 : r'.news = r.news) (h4 : r'.pick = r.pick) : Near s0 P r' :=
  ⟨by rw [h1, h2]; exact h.dif, by rw [h2, h3]; exact h.nine, by rw [h3, h4]; exact h.pick, by rw [h1]; exact h.few, h.pos⟩
theorem writes_put {op : Int} (h : op = 10 ∨ op = 13 ∨ op = 14) : writesOf op = 1 := by rcases h with rfl | rfl | rfl <;> decide
theorem root_near {s0 : MSt} {P : List Int} {r : MRun} {maxw : Int} {i : Ins} (h : Near s0 P r) (ho : i.op = 9 ∨ i.op = 10) : Near s0 P (rootP maxw i r).2 := by
  unfold rootP
  split
  · exact h
  split
  · exact h.of rfl rfl rfl rfl
  split
  · exact h
  · rename_i h9 _ r2 hp
    obtain ⟨rfl, _⟩ := payP_some hp
    have hw : writesOf i.op = 1 := writes_put (by omega)
    have hd := difN_set r.st.roots s0.roots (r.reg i.b).toNat (r.reg i.a) 16
    have h0 := h.dif
    unfold difS at h0
    refine ⟨?_, ?_, h.pick, h.few, h.pos⟩
    · show ((difN (r.st.roots.set _ _) s0.roots 16 + difB r.st.blocks s0.blocks : Nat) : Int) ≤ r.writes + writesOf i.op
      omega
    · show 9 * (r.news.length : Int) ≤ r.writes + writesOf i.op
      have := h.nine; omega
theorem few_upd {f : Int → Option (List Int)} {x : Int} {o : Option (List Int)} (h : ∀ y, (f y).isSome = true → 1 ≤ y ∧ y ≤ 64) (hx : o.isSome = true → 1 ≤ x ∧ x ≤ 64) : ∀ y, (upd f x o y).isSome = true → 1 ≤ y ∧ y ≤ 64 := fun y hy => by
  unfold upd at hy
  split at hy
  · rename_i e; rw [e]; exact hx hy
  · exact h y hy
theorem word_near {s0 : MSt} {P : List Int} {r : MRun} {maxw : Int} {i : Ins} (h : Near s0 P r) (ho : i.op = 11 ∨ i.op = 12 ∨ i.op = 13 ∨ i.op = 14) : Near s0 P (wordP maxw i r).2 := by
  unfold wordP
  split
  · exact h
  · rename_i ws hf
    split
    · exact h
    split
    · exact h.of rfl rfl rfl rfl
    split
    · exact h
    · rename_i h8 h11 r2 hp
      obtain ⟨rfl, _⟩ := payP_some hp
      have hw : writesOf i.op = 1 := writes_put (by omega)
      have hd := difB_upd r.st.blocks s0.blocks (r.reg i.b) (some (ws.set (wordAt i r).toNat (r.reg i.a))) 1 (fun k _ => by
        rw [hf]
        cases s0.blocks (r.reg i.b) with
        | none => simp [difO]
        | some a => exact difN_set ws a _ _ 8)
      have h0 := h.dif
      unfold difS at h0
      refine ⟨?_, ?_, h.pick, ?_, h.pos⟩
      · show ((difN r.st.roots s0.roots 16 + difB (upd _ _ _) s0.blocks : Nat) : Int) ≤ r.writes + writesOf i.op
        omega
      · show 9 * (r.news.length : Int) ≤ r.writes + writesOf i.op
        have := h.nine; omega
      · exact few_upd h.few (fun _ => h.few _ (by rw [hf]; rfl))
theorem fresh_near {s0 : MSt} {P : List Int} {r : MRun} {maxw : Int} {i : Ins} (h : Near s0 P r) (ho : i.op = 15) : Near s0 P (freshP maxw i r).2 := by
  have hw : writesOf i.op = 9 := by rw [ho]; decide
  unfold freshP
  split
  · exact h
  · rename_i r2 hp
    obtain ⟨rfl, _⟩ := payP_some hp
    have h0 := h.dif
    have h9 := h.nine
    have hpay : Near s0 P { r with writes := r.writes + writesOf i.op } := ⟨by show ((difS r.st s0 : Nat) : Int) ≤ r.writes + writesOf i.op; omega, by show 9 * (r.news.length : Int) ≤ r.writes + writesOf i.op; omega, h.pick, h.few, h.pos⟩
    split
    · exact hpay
    · rename_i x rest hpk
      split
      · exact hpay
      · rename_i hno
        have hxU : U64 x := h.pos x (by rw [← h.pick, hpk]; simp)
        have hx : 1 ≤ x ∧ x ≤ 64 := by unfold U64 at hxU; omega
        have hd := difB_upd r.st.blocks s0.blocks x (some zero8) 8 (fun k _ => by have := difO_le (some zero8) (s0.blocks x); omega)
        unfold difS at h0
        refine ⟨?_, ?_, ?_, ?_, h.pos⟩
        · show ((difN r.st.roots s0.roots 16 + difB (upd _ _ _) s0.blocks : Nat) : Int) ≤ r.writes + writesOf i.op
          omega
        · show 9 * ((r.news ++ [x]).length : Int) ≤ r.writes + writesOf i.op
          rw [List.length_append]
          simp only [List.length_cons, List.length_nil]
          omega
        · show (r.news ++ [x]) ++ rest = P
          rw [List.append_assoc, List.singleton_append, ← hpk]; exact h.pick
        · exact few_upd h.few (fun _ => hx)
theorem free_near {s0 : MSt} {P : List Int} {r : MRun} {maxw : Int} {i : Ins} (h : Near s0 P r) : Near s0 P (freeP maxw i r).2 := by
  have hw := writesOf_nn i.op
  unfold freeP
  split
  · exact h
  · split
    · exact h
    · rename_i r2 hp
      obtain ⟨rfl, _⟩ := payP_some hp
      have h0 := h.dif
      have h9 := h.nine
      have hd := difB_upd r.st.blocks s0.blocks (r.reg i.a) none 0 (fun k _ => by simp [difO])
      unfold difS at h0
      refine ⟨?_, ?_, h.pick, ?_, h.pos⟩
      · show ((difN r.st.roots s0.roots 16 + difB (upd _ _ _) s0.blocks : Nat) : Int) ≤ r.writes + writesOf i.op
        omega
      · show 9 * (r.news.length : Int) ≤ r.writes + writesOf i.op
        omega
      · exact few_upd h.few (fun h => by simp at h)
theorem do_near {s0 : MSt} {P : List Int} {r : MRun} {args : List Int} {maxw : Int} {i : Ins} (h : Near s0 P r) : Near s0 P (doP args maxw i r).2 := by
  unfold doP
  split
  · exact h.of rfl rfl rfl rfl
  split
  · show Near s0 P (if _ then _ else _)
    split
    · exact h.of rfl rfl rfl rfl
    · exact h
  split
  · show Near s0 P (if _ then _ else _)
    split
    · exact h
    · exact h.of rfl rfl rfl rfl
  split
  · exact h.of rfl rfl rfl rfl
  split
  · exact h.of rfl rfl rfl rfl
  split
  · rename_i ho; exact root_near h ho
  split
  · rename_i ho; exact word_near h ho
  split
  · rename_i ho; exact fresh_near h ho
  split
  · exact free_near h
  · exact h.of rfl rfl rfl rfl
theorem at_near {s0 : MSt} {P : List Int} {r : MRun} {l : List Ins} {args : List Int} {maxw : Int} (h : Near s0 P r) : Near s0 P (atP l args maxw r).2 :=
  do_near (h.of (r' := { r with steps := r.steps + 1, pc := r.pc + 1 }) rfl rfl rfl rfl)
theorem go_near {s0 : MSt} {P : List Int} {l : List Ins} {args : List Int} {maxw : Int} : ∀ (n : Nat) (r : MRun), Near s0 P r → Near s0 P (goP l args maxw n r)
  | 0, r, h => h.of rfl rfl rfl rfl
  | n + 1, r, h => by
    rcases at_cases l args maxw r with h1 | ⟨h1, h2⟩ | ⟨h1, h2⟩
    · rw [goP_err h1]; exact (at_near h).of rfl rfl rfl rfl
    · rw [goP_end h1 h2]; exact at_near h
    · rw [goP_on h1 h2]; exact go_near n _ (at_near h)
theorem run_near {s : MSt} {l : List Ins} {args : List Int} {fuel maxw : Int} {pick : List Int} (hs : Few64 s) (hp : ∀ x ∈ pick, U64 x) : Near s pick (runP s l args fuel maxw pick) := by
  have h0 : Near s pick (startP s pick) := ⟨by show ((difS s s : Nat) : Int) ≤ 0; rw [difS_self]; decide, by show 9 * ((List.length []) : Int) ≤ 0; decide, rfl, hs, hp⟩
  unfold runP
  split
  · exact go_near _ _ h0
  · exact h0.of rfl rfl rfl rfl
theorem after_few {s : MSt} {r : MRun} {P : List Int} (hs : Few64 s) (h : Near s P r) : Few64 (afterP s r) := by
  unfold afterP
  split
  · exact h.few
  · exact hs
theorem after_dif {s : MSt} {r : MRun} {P : List Int} (h : Near s P r) : (difS (afterP s r) s : Int) ≤ r.writes := by
  unfold afterP
  split
  · exact h.dif
  · rw [difS_self]
    have := h.nine
    omega
theorem run_caps (s : MSt) (l : List Ins) (args : List Int) (fuel maxw : Int) (pick : List Int) : 0 ≤ (runP s l args fuel maxw pick).steps ∧ (runP s l args fuel maxw pick).steps ≤ max fuel 0 ∧ (runP s l args fuel maxw pick).writes ≤ max maxw 0 := by
  unfold runP
  split
  · have hc : (goP l args maxw fuel.toNat (startP s pick)).writes ≤ max maxw 0 := by
      rcases go_cap l args maxw fuel.toNat (startP s pick) with h | h
      · rw [h]; show (0 : Int) ≤ _; omega
      · omega
    have h0 : (startP s pick).steps = 0 := rfl
    rcases go_fuel l args maxw fuel.toNat (startP s pick) rfl with ⟨h1, h2⟩ | ⟨k, h1, h2, h3, h4, h5, h6⟩
    · omega
    · omega
  · show (0 : Int) ≤ 0 ∧ (0 : Int) ≤ _ ∧ (0 : Int) ≤ _
    omega
theorem empty_few : Few64 emptyS := fun h hh => by simp [emptyS] at hh
end Go.Proofs.Ytddaeaimimdonaa
