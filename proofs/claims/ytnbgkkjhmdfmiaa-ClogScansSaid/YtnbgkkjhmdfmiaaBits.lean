/- Facts on words of bits, as the walks of numbers meet them. -/
import Derived.Test.YtnbgkkjhmdfmiaaBase
import Derived.Test.YtnbgkkjhmdfmiaaPure
namespace Go.Proofs.Ytnbgkkjhmdfmiaa
open Go.RowKit

theorem pow_byte (k : Nat) : (2 : Nat) ^ (8 * k) = 256 ^ k := by rw [show (256 : Nat) = 2 ^ 8 from rfl, ← Nat.pow_mul]

theorem or_byte (m k : Nat) (u : UInt8) (hm : m < 256 ^ k) (hk : k < 8) :
    bits .or .u64 (m : Int) (IntKind.u64.wrap (IntKind.u64.wrap (u.toNat : Int) * 2 ^ (8 * k))) = ((m + 256 ^ k * u.toNat : Nat) : Int) := by
  have hu := u.toNat_lt
  have hp : (256 : Nat) ^ k ≤ 256 ^ 7 := Nat.pow_le_pow_right (by omega) (by omega)
  have hp7 : (256 : Nat) ^ 7 = 72057594037927936 := by decide
  have hmul : 256 ^ k * u.toNat ≤ 72057594037927936 * 255 := Nat.mul_le_mul (by omega) (by omega)
  have e1 : IntKind.u64.wrap (u.toNat : Int) = (u.toNat : Int) := by simp [IntKind.wrap, IntKind.bits, IntKind.signed]; omega
  have e2 : ((u.toNat : Int) * 2 ^ (8 * k)) = ((256 ^ k * u.toNat : Nat) : Int) := by
    rw [← pow_byte k, Int.natCast_mul, Int.mul_comm]; simp
  have e3 : IntKind.u64.wrap ((256 ^ k * u.toNat : Nat) : Int) = ((256 ^ k * u.toNat : Nat) : Int) := by
    rw [IntKind.wrap_u64]
    omega
  rw [e1, e2, e3, u64_or_nat _ _ (by omega) (by omega), Nat.or_comm, nat_join (8 * k) _ _ (by rw [pow_byte]; simp) (by rw [pow_byte]; exact hm), Nat.add_comm]

end Go.Proofs.Ytnbgkkjhmdfmiaa
