/-
  Chapter 25, plain: what the document says of calls, answers, errors and things as text.
-/
import Derived.Test.YthklmcpjlpaklaaDoorGlyP
import Derived.Lib.ItoaLen
import Derived.Lib.Join
namespace Go.Proofs.YthklmcpjlpaklaaDoor
open Go.RowKit
set_option linter.unusedVariables false

abbrev Bys : Type := List UInt8
def dec (u : Int) : Bys := Lib.decDigits u.toNat
/-- An error as a word. -/
def wordP (e : Int) : Bys :=
  if e = 30 then [99, 111, 100, 101] else if e = 40 then [97, 98, 111, 114, 116] else if e = 41 then [102, 117, 101, 108] else if e = 42 then [119, 114, 105, 116, 101, 115]
  else if e = 43 then [109, 101, 109] else if e = 44 then [104, 97, 110, 100, 108, 101] else if e = 45 then [108, 97, 115, 116] else [101, 114, 114, 111, 114, 32] ++ Lib.itoa e
def resultP (code val : Int) : Bys := if code = 0 then dec val else if code = 40 then [97, 98, 111, 114, 116, 32] ++ dec val else wordP code
/-- Parts as a line. -/
def lineP (parts : List Bys) : Bys := Lib.join parts [32] ++ [10]
/-- A record of a call. -/
structure Rec where
  who : Int
  tag : Int
  prog : Int
  a0 : Int
  a1 : Int
  a2 : Int
  a3 : Int
  from_ : Int
  till : Int
  steps : Int
  done : Bool
  code : Int
  val : Int
def Rec.cells (r : Rec) : List Value := [.int .i64 r.who, .int .i64 r.tag, .int .i64 r.prog, .int .u64 r.a0, .int .u64 r.a1, .int .u64 r.a2, .int .u64 r.a3, .int .i64 r.from_, .int .i64 r.till, .int .i64 r.steps, .bool r.done, .int .i64 r.code, .int .u64 r.val]
def Rec.v (r : Rec) : Value := .agg #[.int .i64 r.who, .int .i64 r.tag, .int .i64 r.prog, .int .u64 r.a0, .int .u64 r.a1, .int .u64 r.a2, .int .u64 r.a3, .int .i64 r.from_, .int .i64 r.till, .int .i64 r.steps, .bool r.done, .int .i64 r.code, .int .u64 r.val]
structure Rec.Ok (r : Rec) : Prop where
  who : -9223372036854775808 ≤ r.who ∧ r.who ≤ 9223372036854775807
  tag : -9223372036854775808 ≤ r.tag ∧ r.tag ≤ 9223372036854775807
  prog : -9223372036854775808 ≤ r.prog ∧ r.prog ≤ 9223372036854775807
  a0 : 0 ≤ r.a0 ∧ r.a0 ≤ 18446744073709551615
  a1 : 0 ≤ r.a1 ∧ r.a1 ≤ 18446744073709551615
  a2 : 0 ≤ r.a2 ∧ r.a2 ≤ 18446744073709551615
  a3 : 0 ≤ r.a3 ∧ r.a3 ≤ 18446744073709551615
  from_ : -9223372036854775808 ≤ r.from_ ∧ r.from_ ≤ 9223372036854775807
  till : -9223372036854775808 ≤ r.till ∧ r.till ≤ 9223372036854775807
  steps : -9223372036854775808 ≤ r.steps ∧ r.steps ≤ 9223372036854775807
  code : -9223372036854775808 ≤ r.code ∧ r.code ≤ 9223372036854775807
  val : 0 ≤ r.val ∧ r.val ≤ 18446744073709551615
def whoP (who : Int) : Bys := if 0 ≤ who ∧ who < 8 then [UInt8.ofNat (97 + who.toNat)] else [45]
def progP (names : List ByteArray) (p : Int) : Bys := if 0 ≤ p ∧ p < names.length then (names.getD p.toNat ⟨#[]⟩).data.toList else [45]
def partsP (names : List ByteArray) (r : Rec) : List Bys :=
  [whoP r.who, Lib.itoa r.tag, progP names r.prog, dec r.a0, dec r.a1, dec r.a2, dec r.a3, [58], Lib.itoa r.from_, Lib.itoa r.till, Lib.itoa r.steps, [61], if r.done then resultP r.code r.val else [45]]
def recordP (names : List ByteArray) (r : Rec) : Bys := lineP (partsP names r)
/-- A thing's line: the root, the kind's word, the bound, its members. -/
def thingP (root : Int) (word : Bys) (cap : Int) (mem : List Bys) : Bys := lineP (Lib.itoa root :: word :: dec cap :: [58] :: mem)
end Go.Proofs.YthklmcpjlpaklaaDoor
