import Derived.Test.YtiiaingepbkikaaGreatDoorWoBA
namespace Go.Proofs.YtiiaingepbkikaaGreatDoor
open Go.RowKit
set_option linter.unusedVariables false
set_option linter.unusedSimpArgs false
section
variable {L B K : Nat} {w w' : World} {vs : Array Value}
theorem rd_cut {size n : Nat} {A : Option Addr} {xs : List Value} (h : Rd w B size A n xs) (hA : ∀ b o z, A = some ⟨b, o, z⟩ → L ≤ b) (hk : ∀ p : Addr, p.block < B → L ≤ p.block → w'.cell? p = w.cell? p) : Rd w' B size A n xs :=
 ⟨h.len, h.le, fun hn => by
  obtain ⟨b, o, e, hb, hc⟩ := h.at_ hn
  exact ⟨b, o, e, hb, fun j u hu => (hk ⟨b, o + j, none⟩ hb (hA b o none e)).trans (hc j u hu)⟩⟩
theorem RQ.cut {o : QO} (h : RQ L B w vs o) (hk : ∀ p : Addr, p.block < B → L ≤ p.block → w'.cell? p = w.cell? p) : RQ L B w' vs o := by
 rcases o with _ | ⟨cap, l⟩
 ·exact h
 ·obtain ⟨A, n, c, e, hs, hr⟩ := h
  exact ⟨A, n, c, e, hs, rd_cut hr hs.at_ hk⟩
theorem RT.cut {o : PO} (h : RT L B w vs o) (hk : ∀ p : Addr, p.block < B → L ≤ p.block → w'.cell? p = w.cell? p) : RT L B w' vs o := by
 rcases o with _ | ⟨cap, l⟩
 ·exact h
 ·obtain ⟨A, n, c, e, hs, hr⟩ := h
  exact ⟨A, n, c, e, hs, rd_cut hr hs.at_ hk⟩
theorem RWd.cut {M : Array Value} {ths : List Th} (h : RWd L B w M ths) (hk : ∀ p : Addr, p.block < B → L ≤ p.block → w'.cell? p = w.cell? p) : RWd L B w' M ths :=
 ⟨h.size, h.len, h.one, fun k x hx => by obtain ⟨y, h1, h2⟩ := h.th k x hx; exact ⟨y, h1, h2.q.cut hk, h2.c.cut hk, h2.t.cut hk⟩⟩
theorem rd_kept {size n c : Nat} {A : Option Addr} {xs : List Value} {e : TypeId} (h : Rd w B size A n xs ∨ w.ownsRow K e size (.slice A n c) n xs) (hB : B ≤ w.heap.size)
 (hk : ∀ p : Addr, p.block < w.heap.size → ¬ (B ≤ p.block ∧ p.block < K) → w'.cell? p = w.cell? p) : Rd w' w.heap.size size A n xs := by
 rcases h with h | h
 ·exact ⟨h.len, h.le, fun hn => by
   obtain ⟨b, o, e, hb, hc⟩ := h.at_ hn
   exact ⟨b, o, e, by omega, fun j u hu => (hk ⟨b, o + j, none⟩ (show b < _ by omega) (fun h9 => by have := h9.1; simp only at this; omega)).trans (hc j u hu)⟩⟩
 ·obtain ⟨A', c', e1, hr⟩ := Rd.of_own h
  injection e1 with e1 _ _
  subst e1
  exact ⟨hr.len, hr.le, fun hn => by
   obtain ⟨b, o, e, hb, hc⟩ := hr.at_ hn
   exact ⟨b, o, e, hb, fun j u hu => (hk ⟨b, o + j, none⟩ hb (fun h9 => by have h8 := own_at (Nat.le_refl K) h b o none e; have := h9.2; simp only at this; omega)).trans (hc j u hu)⟩⟩
theorem RQo.kept {o : QO} (h : RQo L B K w vs o) (hB : B ≤ w.heap.size) (hk : ∀ p : Addr, p.block < w.heap.size → ¬ (B ≤ p.block ∧ p.block < K) → w'.cell? p = w.cell? p) : RQ L w.heap.size w' vs o := by
 rcases o with _ | ⟨cap, l⟩
 ·exact h
 ·obtain ⟨A, n, c, e, hs, hr⟩ := h
  exact ⟨A, n, c, e, hs, rd_kept hr hB hk⟩
theorem RTo.kept {o : PO} (h : RTo L B K w vs o) (hB : B ≤ w.heap.size) (hk : ∀ p : Addr, p.block < w.heap.size → ¬ (B ≤ p.block ∧ p.block < K) → w'.cell? p = w.cell? p) : RT L w.heap.size w' vs o := by
 rcases o with _ | ⟨cap, l⟩
 ·exact h
 ·obtain ⟨A, n, c, e, hs, hr⟩ := h
  exact ⟨A, n, c, e, hs, rd_kept hr hB hk⟩
theorem RWo.kept {M : Array Value} {ths : List Th} (h : RWo L B K w M ths) (hB : B ≤ w.heap.size) (hk : ∀ p : Addr, p.block < w.heap.size → ¬ (B ≤ p.block ∧ p.block < K) → w'.cell? p = w.cell? p) : RWd L w.heap.size w' M ths :=
 ⟨h.size, h.len, h.one, fun k x hx => by obtain ⟨y, h1, h2⟩ := h.th k x hx; exact ⟨y, h1, h2.q.kept hB hk, h2.c.kept hB hk, h2.t.kept hB hk⟩⟩
end
theorem cell_set_ne {w : World} {p q : Addr} (h : p.block ≠ q.block) (u : Value) : (w.setCell p u).cell? q = w.cell? q := World.cell?_of_block (by simp only [World.setCell]; rw [Array.getElem?_modify, if_neg h])
def Kept (N B K : Nat) (w w' : World) : Prop := ∀ p : Addr, p.block < N → ¬ (B ≤ p.block ∧ p.block < K) → w'.cell? p = w.cell? p
theorem Kept.refl (N B K : Nat) (w : World) : Kept N B K w w := fun _ _ _ => rfl
theorem Kept.below {N B K : Nat} {w w' w'' : World} (h : Kept N B K w w') (hb : Below w'.heap.size w' w'') (hN : N ≤ w'.heap.size) : Kept N B K w w'' := fun p h1 h2 => (hb.cell (p := p) (by omega)).trans (h p h1 h2)
theorem Kept.set_ {N B K : Nat} {w w' : World} (h : Kept N B K w w') {p : Addr} (hp : N ≤ p.block ∨ (B ≤ p.block ∧ p.block < K)) (u : Value) : Kept N B K w (w'.setCell p u) := fun q h1 h2 =>
 (cell_set_ne (fun e => by rw [← e] at h1 h2; rcases hp with hp | hp <;> omega) u).trans (h q h1 h2)
theorem Kept.row {N B K : Nat} {w w' : World} (h : Kept N B K w w') {g : Nat} (hp : N ≤ g ∨ (B ≤ g ∧ g < K)) (cs : Array Value) : Kept N B K w (w'.setRow g cs) := fun q h1 h2 =>
 (cell_setRow_other w' g cs q (fun e => by rw [e] at h1 h2; rcases hp with hp | hp <;> omega)).trans (h q h1 h2)
def ths0 : List Th := List.replicate 16 th0
def runT (l : List (Int × Q4)) (t : List Th) : List Th := l.foldl (fun t x => doP x.1 x.2.a0 x.2.a1 x.2.a2 t) t
theorem runT_succ {l : List (Int × Q4)} {k : Nat} {x : Int × Q4} (hx : l[k]? = some x) (t : List Th) : runT (l.take (k + 1)) t = doP x.1 x.2.a0 x.2.a1 x.2.a2 (runT (l.take k) t) := by
 unfold runT
 rw [List.take_add_one, hx]
 simp
theorem doP_ok {n a0 a1 a2 : Int} {k : Nat} {t : List Th} (h : ∀ x ∈ t, x.Ok k) (ha1 : U64' a1) (ha2 : U64' a2) : ∀ x ∈ doP n a0 a1 a2 t, x.Ok (k + 1) := by
 intro x hx
 unfold doP at hx
 split at hx
 ·exact (h x hx).more (Nat.le_succ k)
 ·rcases List.mem_or_eq_of_mem_set hx with hx | rfl
  ·exact (h x hx).more (Nat.le_succ k)
  ·refine thP_ok ?_ ha1 ha2
   rw [List.getD_eq_getElem?_getD]
   cases hg : t[a0.toNat]? with
   | none => exact ⟨trivial, trivial, trivial, .inl ⟨rfl, rfl⟩⟩
   | some y => exact h y (List.mem_of_getElem? hg)
theorem th0_ok : th0.Ok 0 := ⟨trivial, trivial, trivial, .inl ⟨rfl, rfl⟩⟩
theorem ths0_at {k : Nat} {x : Th} (h : ths0[k]? = some x) : x = th0 ∧ k < 16 := by
 unfold ths0 at h
 rw [List.getElem?_replicate] at h
 split at h
 ·next hk => injection h with h; exact ⟨h.symm, hk⟩
 ·cases h
theorem own0_ (w : World) (g : Nat) (h : Bk w g 80 noThings) : OwIn w g ths0 := by
 have hn : ∀ i, i < 48 → noThings[i]? = some (.pointer none) := fun i hi => by unfold noThings; rw [Array.getElem?_replicate, if_pos hi]
 refine ⟨by simp [ths0], noThings, by simp [noThings], h, fun u e => ?_, fun k x hx => ?_⟩
 ·rw [hn 0 (by omega)] at e
  simp at e
 ·obtain ⟨rfl, hk⟩ := ths0_at hx
  exact ⟨none, none, none, hn _ (by omega), hn _ (by omega), hn _ (by omega), rfl, rfl, rfl⟩
def y0 : C9 := ⟨false, 0, none, 0, 0, false, 0, none, 0, 0, false, 0, none, 0, 0⟩
set_option maxRecDepth 100000 in
theorem zero_cells : Tryz.zeroCells45 = (List.replicate 16 y0.v).flatten.toArray := by kernel_rfl
theorem flat_rep {α : Type} (l : List α) (n k j : Nat) (hk : k < n) (hj : j < l.length) : (List.replicate n l).flatten[k * l.length + j]? = l[j]? := by
 induction n generalizing k with
 | zero => omega
 | succ n ih =>
   rw [List.replicate_succ, List.flatten_cons]
   rcases k with _ | k
   ·rw [Nat.zero_mul, Nat.zero_add, List.getElem?_append_left hj]
   ·rw [List.getElem?_append_right (by rw [Nat.succ_mul]; omega), show (k + 1) * l.length + j - l.length = k * l.length + j by rw [Nat.succ_mul]; omega]
    exact ih k (by omega)
theorem rwd0 (L B : Nat) (w : World) : RWd L B w (Tryz.zeroCells45) ths0 := by
 have hy : ∀ v ∈ y0.v, v.oneCell' = true := by intro v hv; simp [C9.v, y0] at hv; rcases hv with rfl | rfl | rfl | rfl | rfl | rfl | rfl | rfl | rfl <;> rfl
 refine ⟨z144_size, by simp [ths0], fun j v hv => ?_, fun k x hx => ?_⟩
 ·rw [zero_cells] at hv
  have hm := List.mem_of_getElem? (show (List.replicate 16 y0.v).flatten[j]? = some v by simpa using hv)
  obtain ⟨l, hl, hv⟩ := List.mem_flatten.1 hm
  rw [List.mem_replicate] at hl
  rw [hl.2] at hv
  exact hy v hv
 ·obtain ⟨rfl, hk⟩ := ths0_at hx
  refine ⟨y0, fun j v hv => ?_, rfl, rfl, rfl⟩
  have hj : j < 9 := (List.getElem?_eq_some_iff.1 hv).1
  rw [zero_cells, ← hv]
  rw [List.getElem?_toArray]
  exact flat_rep y0.v 16 k j hk hj
end Go.Proofs.YtiiaingepbkikaaGreatDoor
