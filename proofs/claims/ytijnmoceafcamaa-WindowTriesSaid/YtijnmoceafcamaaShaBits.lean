/- Bits of words as bits of natural numbers; four bytes are a word. -/
import Derived.WalkKit
namespace Go.Proofs.Ytijnmoceafcamaa.Sha
open Go.RowKit

theorem or32 (a b : Nat) (ha : a < 4294967296) (hb : b < 4294967296) : Go.bits .or .u32 a b = ((a ||| b : Nat) : Int) := by
  show IntKind.u32.wrap (((BitVec.ofInt 32 a ||| BitVec.ofInt 32 b).toNat : Nat) : Int) = _
  rw [BitVec.toNat_or, BitVec.ofInt_natCast, BitVec.ofInt_natCast, BitVec.toNat_ofNat, BitVec.toNat_ofNat, Nat.mod_eq_of_lt (by omega), Nat.mod_eq_of_lt (by omega)]
  have : a ||| b < 2 ^ 32 := Nat.or_lt_two_pow (by omega) (by omega)
  show ((a ||| b : Nat) : Int) % 4294967296 = _
  omega
theorem and32 (a b : Nat) (ha : a < 4294967296) (hb : b < 4294967296) : Go.bits .and .u32 a b = ((a &&& b : Nat) : Int) := by
  show IntKind.u32.wrap (((BitVec.ofInt 32 a &&& BitVec.ofInt 32 b).toNat : Nat) : Int) = _
  rw [BitVec.toNat_and, BitVec.ofInt_natCast, BitVec.ofInt_natCast, BitVec.toNat_ofNat, BitVec.toNat_ofNat, Nat.mod_eq_of_lt (by omega), Nat.mod_eq_of_lt (by omega)]
  have : a &&& b < 2 ^ 32 := Nat.and_lt_two_pow _ (by omega)
  show ((a &&& b : Nat) : Int) % 4294967296 = _
  omega
theorem xor32 (a b : Nat) (ha : a < 4294967296) (hb : b < 4294967296) : Go.bits .xor .u32 a b = ((a ^^^ b : Nat) : Int) := by
  show IntKind.u32.wrap (((BitVec.ofInt 32 a ^^^ BitVec.ofInt 32 b).toNat : Nat) : Int) = _
  rw [BitVec.toNat_xor, BitVec.ofInt_natCast, BitVec.ofInt_natCast, BitVec.toNat_ofNat, BitVec.toNat_ofNat, Nat.mod_eq_of_lt (by omega), Nat.mod_eq_of_lt (by omega)]
  have : a ^^^ b < 2 ^ 32 := Nat.xor_lt_two_pow (by omega) (by omega)
  show ((a ^^^ b : Nat) : Int) % 4294967296 = _
  omega
theorem word_of (x0 x1 x2 x3 : Int) (h0 : 0 ≤ x0 ∧ x0 ≤ 255) (h1 : 0 ≤ x1 ∧ x1 ≤ 255) (h2 : 0 ≤ x2 ∧ x2 ≤ 255) (h3 : 0 ≤ x3 ∧ x3 ≤ 255) :
    Go.bits .or .u32 (Go.bits .or .u32 (Go.bits .or .u32 (x0 % 4294967296 * 16777216 % 4294967296) (x1 % 4294967296 * 65536 % 4294967296)) (x2 % 4294967296 * 256 % 4294967296)) (x3 % 4294967296) = x0 * 16777216 + x1 * 65536 + x2 * 256 + x3 := by
  obtain ⟨n0, rfl⟩ := Int.eq_ofNat_of_zero_le h0.1
  obtain ⟨n1, rfl⟩ := Int.eq_ofNat_of_zero_le h1.1
  obtain ⟨n2, rfl⟩ := Int.eq_ofNat_of_zero_le h2.1
  obtain ⟨n3, rfl⟩ := Int.eq_ofNat_of_zero_le h3.1
  have e0 : (n0 : Int) % 4294967296 * 16777216 % 4294967296 = ((2 ^ 24 * n0 : Nat) : Int) := by omega
  have e1 : (n1 : Int) % 4294967296 * 65536 % 4294967296 = ((n1 * 65536 : Nat) : Int) := by omega
  have e2 : (n2 : Int) % 4294967296 * 256 % 4294967296 = ((n2 * 256 : Nat) : Int) := by omega
  have e3 : (n3 : Int) % 4294967296 = (n3 : Int) := by omega
  rw [e0, e1, e2, e3, or32 _ _ (by omega) (by omega), ← Nat.two_pow_add_eq_or_of_lt (by omega)]
  rw [show 2 ^ 24 * n0 + n1 * 65536 = 2 ^ 16 * (256 * n0 + n1) by omega, or32 _ _ (by omega) (by omega), ← Nat.two_pow_add_eq_or_of_lt (by omega)]
  rw [show 2 ^ 16 * (256 * n0 + n1) + n2 * 256 = 2 ^ 8 * (256 * (256 * n0 + n1) + n2) by omega, or32 _ _ (by omega) (by omega), ← Nat.two_pow_add_eq_or_of_lt (by omega)]
  omega
end Go.Proofs.Ytijnmoceafcamaa.Sha
