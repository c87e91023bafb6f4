/- Eight bits more. -/
import Derived.WalkKit
import Derived.Test.YtpphoifjhhidfaaSame
namespace Go.Proofs.Ytpphoifjhhidfaa.Der
open Go.RowKit
theorem or64 (q b : Int) (hb : 0 ≤ b ∧ b < 256) : Go.bits .or .i64 (q * 256) b = wrap64 (q * 256 + b) := by
  show IntKind.i64.wrap (((BitVec.ofInt 64 (q * 256) ||| BitVec.ofInt 64 b).toNat : Nat) : Int) = _
  rw [BitVec.toNat_or, BitVec.toNat_ofInt, BitVec.toNat_ofInt]
  rw [show ((2 ^ 64 : Nat) : Int) = 18446744073709551616 by decide]
  obtain ⟨B, hB⟩ : ∃ B : Nat, (b % 18446744073709551616).toNat = B := ⟨_, rfl⟩
  obtain ⟨Q, hQ⟩ : ∃ Q : Nat, (q * 256 % 18446744073709551616).toNat = 2 ^ 8 * Q := ⟨(q * 256 % 18446744073709551616).toNat / 256, by omega⟩
  have hB2 : (B : Int) = b := by omega
  have hQ2 : ((2 ^ 8 * Q : Nat) : Int) = q * 256 % 18446744073709551616 := by omega
  rw [hB, hQ, ← Nat.two_pow_add_eq_or_of_lt (by omega)]
  rw [IntKind.wrap_i64]
  unfold wrap64
  omega
end Go.Proofs.Ytpphoifjhhidfaa.Der
