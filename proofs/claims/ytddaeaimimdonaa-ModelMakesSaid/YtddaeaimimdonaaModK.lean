/-
  Chapter 6, plain: what an instruction keeps.
-/
import Derived.Test.YtddaeaimimdonaaModE
namespace Go.Proofs.Ytddaeaimimdonaa
open Go.RowKit
set_option linter.unusedVariables false

theorem u64_wrap (x : Int) : U64 (wrapU x) := by unfold wrapU U64; omega
theorem reckon_u64 {i : Ins} {regs args : List Int} (hr : ∀ x ∈ regs, U64 x) (ha : ∀ x ∈ args, U64 x) (hi : U64 i.imm) : U64 (reckonP i regs args) := by
  have h0 : U64 0 := ⟨by decide, by decide⟩
  have h1 : U64 1 := ⟨by decide, by decide⟩
  have hb := getD_u64 hr i.b.toNat
  have hc := getD_u64 hr i.c.toNat
  unfold reckonP
  split
  · exact hi
  split
  · exact hb
  split
  · exact u64_wrap _
  split
  · exact u64_wrap _
  split
  · exact u64_wrap _
  split
  · split
    · exact hb
    · rename_i hz
      unfold U64 at hb hc ⊢
      have h2 := Int.emod_nonneg (regs.getD i.b.toNat 0) hz
      have h3 := Int.emod_lt_of_pos (regs.getD i.b.toNat 0) (by omega : 0 < regs.getD i.c.toNat 0)
      omega
  split
  · split <;> assumption
  split
  · split <;> assumption
  split
  · exact getD_u64 ha _
  · exact h0
theorem mem_set {α : Type} {l : List α} {k : Nat} {v x : α} (h : x ∈ l.set k v) : x = v ∨ x ∈ l := by
  rcases List.mem_or_eq_of_mem_set h with h | h
  · exact .inr h
  · exact .inl h
section
variable {maxw : Int} {r r' : MRun}
theorem ROk.put (h : ROk maxw r) (k : Int) {v : Int} (hv : U64 v) : ROk maxw (r.put k v) :=
  ⟨fun x hx => by
    rcases mem_set hx with rfl | hx
    · exact hv
    · exact h.regs x hx, h.roots, h.blocks, h.pick, h.w0, h.w1, h.mw⟩
theorem ROk.reg (h : ROk maxw r) (k : Int) : U64 (r.reg k) := getD_u64 h.regs _
theorem payP_some {op : Int} (h : payP maxw op r = some r') : r' = { r with writes := r.writes + writesOf op } ∧ writesOf op ≤ maxw - r.writes := by
  unfold payP at h
  split at h
  · cases h
  · cases h; exact ⟨rfl, by omega⟩
theorem ROk.pay {op : Int} (h : ROk maxw r) (hw : r.writes ≤ 999999999000) (hp : payP maxw op r = some r') : ROk maxw r' := by
  obtain ⟨rfl, h2⟩ := payP_some hp
  have hb := writesOf_bd op
  exact ⟨h.regs, h.roots, h.blocks, h.pick, by have := h.w0; show _ ∧ r.writes + writesOf op ≤ _; simp only; omega, by show r.writes + writesOf op ≤ maxw ∨ _; omega, h.mw⟩
theorem upd_ok {f : Int → Option (List Int)} (h : ∀ y ws, f y = some ws → ∀ x ∈ ws, U64 x) {k : Int} {o : Option (List Int)} (ho : ∀ ws, o = some ws → ∀ x ∈ ws, U64 x) : ∀ y ws, upd f k o y = some ws → ∀ x ∈ ws, U64 x := by
  intro y ws hy
  unfold upd at hy
  split at hy
  · exact ho ws hy
  · exact h y ws hy
theorem root_ok {i : Ins} (h : ROk maxw r) (hw : r.writes ≤ 999999999000) : ROk maxw (rootP maxw i r).2 := by
  unfold rootP
  split
  · exact h
  split
  · exact h.put _ (getD_u64 h.roots _)
  split
  · exact h
  · rename_i r2 hp
    have h2 := h.pay hw hp
    exact ⟨h2.regs, fun x hx => by
      rcases mem_set hx with rfl | hx
      · exact h.reg _
      · exact h.roots x hx, by obtain ⟨rfl, _⟩ := payP_some hp; exact h.blocks, h2.pick, h2.w0, h2.w1, h2.mw⟩
theorem word_ok {i : Ins} (h : ROk maxw r) (hw : r.writes ≤ 999999999000) : ROk maxw (wordP maxw i r).2 := by
  unfold wordP
  split
  · exact h
  · rename_i ws hf
    split
    · exact h
    split
    · exact h.put _ (getD_u64 (h.blocks _ _ hf) _)
    split
    · exact h
    · rename_i r2 hp
      have h2 := h.pay hw hp
      exact ⟨h2.regs, by obtain ⟨rfl, _⟩ := payP_some hp; exact h.roots, upd_ok h.blocks (fun ws' e => by
        cases e
        intro x hx
        rcases mem_set hx with rfl | hx
        · exact h.reg _
        · exact h.blocks _ _ hf x hx), h2.pick, h2.w0, h2.w1, h2.mw⟩
theorem fresh_ok {i : Ins} (h : ROk maxw r) (hw : r.writes ≤ 999999999000) : ROk maxw (freshP maxw i r).2 := by
  unfold freshP
  split
  · exact h
  · rename_i r2 hp
    have h2 := h.pay hw hp
    split
    · exact h2
    · rename_i x rest hpk
      split
      · exact h2
      · have hx : U64 x := h.pick x (by rw [hpk]; simp)
        exact ⟨fun y hy => by
          rcases mem_set hy with rfl | hy
          · exact hx
          · exact h.regs y hy, by obtain ⟨rfl, _⟩ := payP_some hp; exact h.roots, upd_ok h.blocks (fun ws' e => by
          cases e
          intro y hy
          simp [zero8] at hy
          subst hy
          exact ⟨by decide, by decide⟩), fun y hy => h.pick y (by rw [hpk]; exact List.mem_cons_of_mem _ hy), h2.w0, h2.w1, h2.mw⟩
theorem free_ok {i : Ins} (h : ROk maxw r) (hw : r.writes ≤ 999999999000) : ROk maxw (freeP maxw i r).2 := by
  unfold freeP
  split
  · exact h
  · split
    · exact h
    · rename_i r2 hp
      have h2 := h.pay hw hp
      exact ⟨h2.regs, by obtain ⟨rfl, _⟩ := payP_some hp; exact h.roots, upd_ok h.blocks (fun ws' e => by cases e), h2.pick, h2.w0, h2.w1, h2.mw⟩
theorem do_ok {args : List Int} {i : Ins} (h : ROk maxw r) (hw : r.writes ≤ 999999999000) (ha : ∀ x ∈ args, U64 x) (hi : U64 i.imm) : ROk maxw (doP args maxw i r).2 := by
  unfold doP
  split
  · exact ⟨h.regs, h.roots, h.blocks, h.pick, h.w0, h.w1, h.mw⟩
  split
  · show ROk maxw (if _ then _ else _)
    split
    · exact ⟨h.regs, h.roots, h.blocks, h.pick, h.w0, h.w1, h.mw⟩
    · exact h
  split
  · show ROk maxw (if _ then _ else _)
    split
    · exact h
    · exact ⟨h.regs, h.roots, h.blocks, h.pick, h.w0, h.w1, h.mw⟩
  split
  · exact ⟨h.regs, h.roots, h.blocks, h.pick, h.w0, h.w1, h.mw⟩
  split
  · exact ⟨h.regs, h.roots, h.blocks, h.pick, h.w0, h.w1, h.mw⟩
  split
  · exact root_ok h hw
  split
  · exact word_ok h hw
  split
  · exact fresh_ok h hw
  split
  · exact free_ok h hw
  · exact h.put _ (reckon_u64 h.regs ha hi)
theorem step_ok {args : List Int} {i : Ins} (h : ROk maxw r) (hw : r.writes ≤ 999999999000) (ha : ∀ x ∈ args, U64 x) (hi : U64 i.imm) : ROk maxw (stepP args maxw i r).2 :=
  do_ok (r := { r with pc := r.pc + 1 }) ⟨h.regs, h.roots, h.blocks, h.pick, h.w0, h.w1, h.mw⟩ hw ha hi
end
end Go.Proofs.Ytddaeaimimdonaa
