/-
  Chapter 25, plain: how long a record's line is at most.
-/
import Derived.Test.YthklmcpjlpaklaaDoorRepA
namespace Go.Proofs.YthklmcpjlpaklaaDoor
open Go.RowKit
set_option linter.unusedVariables false

theorem whoP_len (who : Int) : (whoP who).length ≤ 1 := by unfold whoP; split <;> simp
theorem progP_len (names : List ByteArray) (p : Int) (hsz : ∀ x ∈ names, x.size ≤ 1000) : (progP names p).length ≤ 1000 := by
  unfold progP
  split
  · rename_i h
    have hk : p.toNat < names.length := by omega
    rw [List.getD_eq_getElem?_getD, List.getElem?_eq_getElem hk]
    exact hsz _ (List.getElem_mem hk)
  · simp
theorem parts_len (names : List ByteArray) (r : Rec) (hok : r.Ok) (hsz : ∀ x ∈ names, x.size ≤ 1000) : (Lib.join (partsP names r) [32]).length ≤ 1400 := by
  have h1 := whoP_len r.who
  have h2 := itoa_len r.tag hok.tag.1 hok.tag.2
  have h3 := progP_len names r.prog hsz
  have h4 := dec_len r.a0 hok.a0.2
  have h5 := dec_len r.a1 hok.a1.2
  have h6 := dec_len r.a2 hok.a2.2
  have h7 := dec_len r.a3 hok.a3.2
  have h8 := itoa_len r.from_ hok.from_.1 hok.from_.2
  have h9 := itoa_len r.till hok.till.1 hok.till.2
  have h10 := itoa_len r.steps hok.steps.1 hok.steps.2
  have h11 : (if r.done = true then resultP r.code r.val else [45] : Bys).length ≤ 27 := by
    split
    · exact resultP_len r.code r.val hok.code.1 hok.code.2 hok.val.2
    · simp
  unfold partsP
  rw [Lib.join_cons]
  simp only [Lib.joinTail, List.map_cons, List.map_nil, List.flatten_cons, List.flatten_nil, List.length_append, List.length_cons, List.length_nil]
  omega
end Go.Proofs.YthklmcpjlpaklaaDoor
