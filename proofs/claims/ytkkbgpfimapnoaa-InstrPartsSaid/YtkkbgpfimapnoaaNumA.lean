/-
  Numbers: bytes put together by shifts and 'or'. No program in sight.
-/
import Derived.WalkKit
namespace Go.Proofs.Ytkkbgpfimapnoaa

theorem pow8 (q : Nat) : (256 : Nat) ^ q = 2 ^ (8 * q) := by rw [Nat.pow_mul]
theorem or_shl (g z : Int) (q : Nat) (hq : q < 8) (g0 : 0 ≤ g) (g1 : g < 256 ^ q) (z0 : 0 ≤ z) (z1 : z ≤ 255) :
    bits .or .u64 g (IntKind.u64.wrap (z * 2 ^ (8 * q))) = g + z * 256 ^ q := by
  obtain ⟨G, rfl⟩ := Int.eq_ofNat_of_zero_le g0
  obtain ⟨Z, rfl⟩ := Int.eq_ofNat_of_zero_le z0
  have hG : G < 2 ^ (8 * q) := by
    rw [← pow8]
    have h : ((G : Nat) : Int) < ((256 ^ q : Nat) : Int) := by rw [Int.natCast_pow]; exact g1
    omega
  have hZ : Z ≤ 255 := by omega
  have hp : 2 ^ (8 * q) ≤ 2 ^ 56 := Nat.pow_le_pow_right (by decide) (by omega)
  have hm : Z * 2 ^ (8 * q) ≤ 255 * 2 ^ (8 * q) := Nat.mul_le_mul_right _ hZ
  have hlt : Z * 2 ^ (8 * q) < 18446744073709551616 := by omega
  have e1 : ((Z : Int) * 2 ^ (8 * q)) = ((Z * 2 ^ (8 * q) : Nat) : Int) := by rw [Int.natCast_mul, Int.natCast_pow]; rfl
  have e2 : ((Z : Int) * 256 ^ q) = ((Z * 2 ^ (8 * q) : Nat) : Int) := by rw [← pow8, Int.natCast_mul, Int.natCast_pow]; rfl
  rw [e1, e2, IntKind.wrap_u64]
  have e3 : (((Z * 2 ^ (8 * q) : Nat) : Int) % 18446744073709551616) = ((Z * 2 ^ (8 * q) : Nat) : Int) := by omega
  rw [e3, u64_or_nat G _ (by omega) hlt]
  have e4 : G ||| Z * 2 ^ (8 * q) = 2 ^ (8 * q) * Z + G := by rw [Nat.or_comm, Nat.mul_comm Z, Nat.two_pow_add_eq_or_of_lt hG]
  rw [e4, Nat.mul_comm]
  omega
end Go.Proofs.Ytkkbgpfimapnoaa
