/-
  Chapter 6, plain: what the four programs of ModelBlocks come to.
-/
import Derived.Test.YtddaeaimimdonaaLawM1
namespace Go.Proofs.Ytddaeaimimdonaa
open Go.RowKit
set_option linter.unusedVariables false
set_option linter.unusedSimpArgs false

def takeL : List Ins := [⟨15, 1, 0, 0, 0⟩, ⟨20, 1, 0, 0, 0⟩]
def putL (w : Int) : List Ins := [⟨8, 1, 0, 0, 0⟩, ⟨8, 2, 0, 0, 1⟩, ⟨13, 2, 1, 0, w⟩, ⟨20, 2, 0, 0, 0⟩]
def getL : List Ins := [⟨8, 1, 0, 0, 0⟩, ⟨8, 2, 0, 0, 1⟩, ⟨12, 3, 1, 2, 0⟩, ⟨20, 3, 0, 0, 0⟩]
def dropL : List Ins := [⟨8, 1, 0, 0, 0⟩, ⟨16, 1, 0, 0, 0⟩, ⟨20, 1, 0, 0, 0⟩]
/-- What a program comes to. -/
structure Comes (s : MSt) (l : List Ins) (args : List Int) (fuel maxw : Int) (pick : List Int) (c v : Int) (s' : MSt) : Prop where
  code : (runP s l args fuel maxw pick).code = c
  val : (runP s l args fuel maxw pick).val = v
  after : afterP s (runP s l args fuel maxw pick) = s'
theorem takeL_right : rightP takeL = true := by decide
theorem getL_right : rightP getL = true := by decide
theorem dropL_right : rightP dropL = true := by decide
theorem putL_right {w : Int} (h : 0 ≤ w ∧ w < 8) : rightP (putL w) = true := by
  have : w = 0 ∨ w = 1 ∨ w = 2 ∨ w = 3 ∨ w = 4 ∨ w = 5 ∨ w = 6 ∨ w = 7 := by omega
  rcases this with rfl | rfl | rfl | rfl | rfl | rfl | rfl | rfl <;> decide
theorem run9 {s : MSt} {l : List Ins} {args : List Int} {maxw : Int} {pick : List Int} (h : rightP l = true) : runP s l args 9 maxw pick = goP l args maxw 9 (startP s pick) := by
  unfold runP; rw [if_pos h]; rfl
theorem take_new {s : MSt} {h : Int} (h0 : s.blocks h = none) (h1 : 1 ≤ h) (h64 : h ≤ 64) : Comes s takeL [0, 0, 0, 0] 9 9 [h] 0 h ⟨s.roots, upd s.blocks h (some zero8)⟩ := by
  have e1 : ¬ h = 0 := by omega
  have e2 : ¬ 64 < h := by omega
  constructor <;> rw [run9 takeL_right] <;> simp [afterP, goP, stepP, doP, takeL, startP, freshP, payP, writesOf, MRun.reg, h0, e1, e2, zero16]
theorem take_old {s : MSt} {h : Int} {ws : List Int} (h0 : s.blocks h = some ws) : Comes s takeL [0, 0, 0, 0] 9 9 [h] 43 0 s := by
  constructor <;> rw [run9 takeL_right] <;> simp [afterP, goP, stepP, doP, startP, reckonP, payP, writesOf, MRun.reg, MRun.put, zero16, takeL, freshP, h0]
theorem get_ok {s : MSt} {h at_ maxw : Int} {ws : List Int} (h0 : s.blocks h = some ws) (ha : 0 ≤ at_ ∧ at_ < 8) : Comes s getL [h, at_, 0, 0] 9 maxw [] 0 (ws.getD at_.toNat 0) s := by
  have e1 : ¬ 8 ≤ at_ := by omega
  constructor <;> rw [run9 getL_right] <;> simp [afterP, goP, stepP, doP, startP, reckonP, payP, writesOf, MRun.reg, MRun.put, zero16, getL, wordP, wordAt, h0, e1]
theorem get_far {s : MSt} {h maxw : Int} {ws : List Int} (h0 : s.blocks h = some ws) : Comes s getL [h, 8, 0, 0] 9 maxw [] 44 0 s := by
  constructor <;> rw [run9 getL_right] <;> simp [afterP, goP, stepP, doP, startP, reckonP, payP, writesOf, MRun.reg, MRun.put, zero16, getL, wordP, wordAt, h0]
theorem get_none {s : MSt} {h at_ maxw : Int} (h0 : s.blocks h = none) : Comes s getL [h, at_, 0, 0] 9 maxw [] 44 0 s := by
  constructor <;> rw [run9 getL_right] <;> simp [afterP, goP, stepP, doP, startP, reckonP, payP, writesOf, MRun.reg, MRun.put, zero16, getL, wordP, wordAt, h0]
theorem put_ok {s : MSt} {h v w : Int} {ws : List Int} (h0 : s.blocks h = some ws) (hw : 0 ≤ w ∧ w < 8) : Comes s (putL w) [h, v, 0, 0] 9 1 [] 0 v ⟨s.roots, upd s.blocks h (some (ws.set w.toNat v))⟩ := by
  have e1 : ¬ 8 ≤ w := by omega
  constructor <;> rw [run9 (putL_right hw)] <;> simp [afterP, goP, stepP, doP, startP, reckonP, payP, writesOf, MRun.reg, MRun.put, zero16, putL, wordP, wordAt, h0, e1]
theorem put_none {s : MSt} {h v w : Int} (h0 : s.blocks h = none) (hw : 0 ≤ w ∧ w < 8) : Comes s (putL w) [h, v, 0, 0] 9 1 [] 44 0 s := by
  constructor <;> rw [run9 (putL_right hw)] <;> simp [afterP, goP, stepP, doP, startP, reckonP, payP, writesOf, MRun.reg, MRun.put, zero16, putL, wordP, wordAt, h0]
theorem drop_ok {s : MSt} {h : Int} {ws : List Int} (h0 : s.blocks h = some ws) : Comes s dropL [h, 0, 0, 0] 9 2 [] 0 h ⟨s.roots, upd s.blocks h none⟩ := by
  constructor <;> rw [run9 dropL_right] <;> simp [afterP, goP, stepP, doP, startP, reckonP, payP, writesOf, MRun.reg, MRun.put, zero16, dropL, freeP, h0]
theorem drop_none {s : MSt} {h : Int} (h0 : s.blocks h = none) : Comes s dropL [h, 0, 0, 0] 9 2 [] 44 0 s := by
  constructor <;> rw [run9 dropL_right] <;> simp [afterP, goP, stepP, doP, startP, reckonP, payP, writesOf, MRun.reg, MRun.put, zero16, dropL, freeP, h0]
theorem takeL_ok : ∀ i ∈ takeL, i.Ok := by
  intro i hi
  simp [takeL] at hi
  rcases hi with rfl | rfl <;> constructor <;> decide
theorem getL_ok : ∀ i ∈ getL, i.Ok := by
  intro i hi
  simp [getL] at hi
  rcases hi with rfl | rfl | rfl | rfl <;> constructor <;> decide
theorem dropL_ok : ∀ i ∈ dropL, i.Ok := by
  intro i hi
  simp [dropL] at hi
  rcases hi with rfl | rfl | rfl <;> constructor <;> decide
theorem putL_ok {w : Int} (hw : 0 ≤ w ∧ w < 8) : ∀ i ∈ putL w, i.Ok := by
  have : w = 0 ∨ w = 1 ∨ w = 2 ∨ w = 3 ∨ w = 4 ∨ w = 5 ∨ w = 6 ∨ w = 7 := by omega
  intro i hi
  simp [putL] at hi
  rcases hi with rfl | rfl | rfl | rfl
  · constructor <;> decide
  · constructor <;> decide
  · rcases this with rfl | rfl | rfl | rfl | rfl | rfl | rfl | rfl <;> constructor <;> decide
  · constructor <;> decide
theorem i64_and7 (n : Int) : bits .and .i64 n 7 = n % 8 := by
  have h7 : (BitVec.ofInt 64 7).toNat = 2 ^ 3 - 1 := by decide
  have key : (BitVec.ofInt 64 n &&& BitVec.ofInt 64 7).toNat = (n % ((2 ^ 64 : Nat) : Int)).toNat % 2 ^ 3 := by
    rw [BitVec.toNat_and, BitVec.toNat_ofInt, h7, Nat.and_two_pow_sub_one_eq_mod]
  show IntKind.i64.wrap ((BitVec.ofInt 64 n &&& BitVec.ofInt 64 7).toNat : Nat) = n % 8
  rw [key, IntKind.wrap_i64]
  omega
/-- A run of one of them. -/
theorem comes_run {s s' : MSt} {l : List Ins} {args : List Int} {maxw c v : Int} {pick : List Int} (hC : Comes s l args 9 maxw pick c v s') {B n sb mb : Nat} {A : Option Addr} {ln lc : Nat} {pA : Option Addr} {pc_ : Nat} {w : World} (h : StIn w B n sb mb s) (hs : SOk s) (hr : RdI w w.heap.size A ln l) (hok : ∀ i ∈ l, i.Ok)
    (ha4 : args.length = 4) (ha : ∀ x ∈ args, U64 x) (hm : -9223372036854775808 ≤ maxw ∧ maxw ≤ 9223372036854775807) (hp : RdU w w.heap.size pA pick.length pick) (hpu : ∀ x ∈ pick, U64 x) (hpc : pick.length ≤ pc_) (hpl : pick.length ≤ 1) (hn : n ≤ 1000000) :
    Calls Try.prog 17 #[.pointer (some ⟨sb, 0, none⟩), .slice A ln lc, .agg (u64s args).toArray, .int .i64 9, .int .i64 maxw, .slice pA pick.length pc_] w fun e w' =>
      ∃ (mb' : Nat) (st wr : Int) (nA : Option Addr) (nn nc : Nat), e = .returned (.agg #[.int .i64 c, .int .u64 v, .int .i64 st, .int .i64 wr, .slice nA nn nc]) ∧ StIn w' B (n + 10) sb mb' s' ∧ SOk s' ∧ w.grownBy w' (some sb) := by
  refine (run_any B n sb mb s l A ln lc args 9 maxw pick pA pc_ w h hs hr hok ha4 ha (by omega) hm hp hpu hpc (by omega) (by omega)).mono ?_
  rintro e wr ⟨⟨nv, mbr, rfl, hst, hown, _, _⟩, hok2, hgr⟩
  obtain ⟨nA, nc, rfl, _⟩ := Rd.of_own hown
  rw [hC.after] at hst hok2
  refine ⟨mbr, (runP s l args 9 maxw pick).steps, (runP s l args 9 maxw pick).writes, nA, (runP s l args 9 maxw pick).news.length, nc, ?_, hst.wide (by simp only [show (9 : Int).toNat = 9 from rfl]; omega), hok2, hgr⟩
  unfold doneV
  rw [hC.code, hC.val]
end Go.Proofs.Ytddaeaimimdonaa
