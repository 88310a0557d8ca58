/-
  The law LinkRuns: for every input the call returns true, and each argument reads behind it as it read before. No condition.
-/
import Derived.Test.YtddaeaimimdonaaRows
import Derived.Test.YtddaeaimimdonaaLawL3
import Derived.Test.YtddaeaimimdonaaOpen
import Derived.Test.YtddaeaimimdonaaOpenP
import Derived.WalkKit
import Derived.ProofKit
import Derived.OpenShut
import Derived.ShutString
import Derived.ChangeOld
import Derived.Below
namespace Go.Proofs.Ytddaeaimimdonaa
open Go.ChangeShapes Go.WideShapes Go.RowKit Go.Deep
set_option linter.unusedVariables false

section
variable {H : Type} {enc : TypeId × Value → H} {w : World} {base : Nat} {spare : Nat → Bool} {held : Bool}
set_option maxRecDepth 100000 in
theorem read_u64q {r : Reach} {b0 : Nat} {v : Value} {d : DataW H} {p : List MemPlace} (hval : Value.okWide Try.prog w r b0 26 v) (h : DataW.Trod enc Try.prog w base spare held 26 v d p) :
    ∃ A n c l, v = .slice A n c ∧ RdU w w.heap.size A n l ∧ (∀ x ∈ l, U64 x) ∧ n ≤ c := by
  obtain ⟨A, n, c, l, hv, hr, _, hg, hc⟩ := read_slice (fun x : Int => [Value.int .u64 x]) U64 (size := 1) (fun _ => rfl) (by decide) Try.underlying26 c_u64
    (fun n cs x hx => by obtain ⟨z, hz, _, hw⟩ := DataW.trod_int Try.underlying24 hx; exact ⟨z, hz, wf_u64 hw⟩) hval h
  refine ⟨A, n, c, l, hv, ?_, hg, hc⟩
  show Rd _ _ _ _ _ _
  unfold u64s
  rw [← flat_one]; exact hr
set_option maxRecDepth 100000 in
theorem read_args {r : Reach} {b0 : Nat} {v : Value} {d : DataW H} {p : List MemPlace} (hval : Value.okWide Try.prog w r b0 25 v) (h : DataW.Trod enc Try.prog w base spare held 25 v d p) :
    ∃ l : List Int, v = .agg (u64s l).toArray ∧ l.length = 4 ∧ ∀ x ∈ l, U64 x := by
  obtain ⟨cs, rfl, hsz⟩ : ∃ cs, v = .agg cs ∧ cs.size = Try.prog.cellsOf 25 := by
    unfold Value.okWide at hval
    rw [Try.underlying25] at hval
    cases v <;> simp at hval <;> first | (exact ⟨_, rfl, by simpa using hval⟩) | (exact ⟨_, rfl, hval.1⟩) | contradiction
  obtain ⟨fuel, hf⟩ := h
  rw [c_args] at hsz
  obtain ⟨cs⟩ := cs
  have hsz : cs.length = 4 := by simpa using hsz
  match cs, hsz with
  | [c0, c1, c2, c3], _ =>
    have hf : DataW.trod enc Try.prog w base spare held fuel 25 [c0, c1, c2, c3] = some (d, p) := by simpa [Value.cells] using hf
    obtain ⟨l, h1, h2, h3⟩ := four_u64 hf
    exact ⟨l, by rw [← h1], h2, h3⟩
end
end Go.Proofs.Ytddaeaimimdonaa
namespace Go.Proofs.Ytddaeaimimdonaa.linkRuns
open Go.ChangeShapes Go.WideShapes Go.ChangeAt Go.RowKit
open Go.ChangeMaps (open_string shut_string)
set_option linter.unusedVariables false

theorem own : ownKnob Try.prog.godebug = none := by kernel_rfl
theorem laidOut : laidOutB Try.prog = true := by kernel_rfl

set_option maxRecDepth 100000 in
theorem lifted (os : Os) (started : os.Started) (H : Type) (enc : TypeId × Value → H) :
    ReturnsInHanded {} Try.checked os 11 .any (Rows.linkRunsSpec.pre6 enc Try.prog Try.f11 Rows.linkRunsRow.domain false) (Rows.linkRunsSpec.post enc Try.prog Try.f11 false true false false) := by
  refine returnsInHanded_of_change (C := Try.checked) own started (by kernel_rfl) Try.func11
    (ChangeSpec.witness6 (enc := enc) (C := Try.checked) false ⟨#[], #[.slice none 0 0, .slice none 0 0, .agg #[.int .u64 0, .int .u64 0, .int .u64 0, .int .u64 0], .slice none 0 0], []⟩ 8 (by kernel_rfl) (by kernel_rfl) (by kernel_rfl) (by kernel_rfl)) ?_
  intro W base args ds gs before hval0 hW hcnd _
  have hval : ∀ (j : Nat) t v, Try.f11.params[j]? = some t → args[j]? = some v → Value.okWide Try.prog W .any base t v := hval0
  have hW' := hW
  obtain ⟨p, q, hA0, hV, rfl, hfz, hnd⟩ := hW
  have hA : DataW.TrodAll enc Try.prog W 0 (fun _ => true) true Try.f11.params.toList args.toList ds p := hA0
  rw [Try.params11] at hA hval
  obtain ⟨v0, vs0, d0, ds0, p0, q0, hargs, rfl, rfl, h0, r0⟩ := trodAll_cons hA
  obtain ⟨v1, vs1, d1, ds1, p1, q1, rfl, rfl, rfl, h1, r1⟩ := trodAll_cons r0
  obtain ⟨v2, vs2, d2, ds2, p2, q2, rfl, rfl, rfl, h2, r2⟩ := trodAll_cons r1
  obtain ⟨v3, vs3, d3, ds3, p3, q3, rfl, rfl, rfl, h3, r3⟩ := trodAll_cons r2
  obtain ⟨rfl, rfl, rfl⟩ := trodAll_nil r3
  obtain rfl : args = #[v0, v1, v2, v3] := by cases args; simp_all
  obtain ⟨rfl, rfl⟩ := trodVars_none hV
  have k0 := h0
  have lt0 : ∀ x ∈ p0, x.block < W.heap.size := by obtain ⟨m, hm⟩ := k0; exact DataW.trod_lt m _ _ _ hm
  have k1 := h1
  have lt1 : ∀ x ∈ p1, x.block < W.heap.size := by obtain ⟨m, hm⟩ := k1; exact DataW.trod_lt m _ _ _ hm
  have k2 := h2
  have lt2 : ∀ x ∈ p2, x.block < W.heap.size := by obtain ⟨m, hm⟩ := k2; exact DataW.trod_lt m _ _ _ hm
  have k3 := h3
  have lt3 : ∀ x ∈ p3, x.block < W.heap.size := by obtain ⟨m, hm⟩ := k3; exact DataW.trod_lt m _ _ _ hm
  obtain ⟨A0, n0, c0, l0, rfl, rd0, ok0, hc0⟩ := read_inss Try.underlying23 Try.underlying43 (by kernel_rfl) (by kernel_rfl) Try.underlying3 Try.underlying3 Try.underlying3 Try.underlying3 Try.underlying24 (hval 0 23 _ rfl rfl) h0
  obtain ⟨A1, n1, c1, l1, rfl, rd1, ln1, ok1, hc1⟩ := read_parts (hval 1 66 _ rfl rfl) h1
  obtain ⟨l2, rfl, r42, ru2⟩ := read_args (hval 2 25 _ rfl rfl) h2
  obtain ⟨A3, n3, c3, l3, rfl, rd3, ru3, hc3⟩ := read_u64q (hval 3 26 _ rfl rfl) h3
  clear hA0 hval0
  refine (runs_walk l0 A0 n0 c0 l1 A1 n1 c1 l2 l3 A3 n3 c3 W rd0 ok0 hc0 ⟨rd1, ln1, ok1⟩ hc1 r42 ru2 rd3 ru3 hc3).mono fun e W' ⟨he, bel⟩ => ?_
  subst he
  exact ⟨_, rfl, _, _, _, [], _, [], hW', trodAll_mk1 (shut_bool Try.underlying4 _), (trodAll_cons_mk (Below.trod laidOut (by kernel_rfl) (of_decide_eq_true (by kernel_rfl)) k0 bel lt0) (trodAll_cons_mk (Below.trod laidOut (by kernel_rfl) (of_decide_eq_true (by kernel_rfl)) k1 bel lt1) (trodAll_cons_mk (Below.trod laidOut (by kernel_rfl) (of_decide_eq_true (by kernel_rfl)) k2 bel lt2) (trodAll_cons_mk (Below.trod laidOut (by kernel_rfl) (of_decide_eq_true (by kernel_rfl)) k3 bel lt3) trodAll_mk0)))), rfl, bel.frame _, fun h => by cases h⟩

theorem over : Rows.linkRunsRow.holds Try.pinned (OpenSpec.ofChange Rows.linkRunsSpec) :=
  OpenClaim.holds_of_wide 11 Try.f11 rfl rfl rfl rfl rfl rfl rfl ⟨rfl, rfl, rfl, rfl, rfl⟩ rfl rfl rfl rfl rfl (by kernel_rfl) Try.func11 (by kernel_rfl)
    (of_decide_eq_true (by kernel_rfl)) (by unfold Func.isWrapper; first | (rw [if_pos (by decide +kernel)]; kernel_rfl) | (rw [if_neg (by decide +kernel)]; exact ⟨rfl, rfl⟩))
    (fun os started H enc _ => lifted os started H enc)

theorem proved : Rows.LinkRunsSaid := over
#print axioms proved
end Go.Proofs.Ytddaeaimimdonaa.linkRuns
