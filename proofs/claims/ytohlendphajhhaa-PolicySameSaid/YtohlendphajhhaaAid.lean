/- Plain lemmas on whole numbers for the policy seat: masks of int64 as remainders; what 'wf' says of an int64; max and min. No condition. -/
import Derived.Test.YtohlendphajhhaaRows
import Derived.Laws.BitsLemmas
import Derived.RowKit
import Derived.Test.YtohlendphajhhaaWMore
namespace Go.Proofs.Ytohlendphajhhaa.Aid
open Go.RowKit Go.Proofs.YtohlendphajhhaaW.PrintWords Go.Proofs.YtohlendphajhhaaW.PrintLast

theorem and_mask64 (x : Int) (i : Nat) (hi : i ≤ 62) : Go.bits .and .i64 x (2 ^ i - 1) = x % 2 ^ i := by
  have hpos : 0 < 2 ^ i := Nat.two_pow_pos i
  have hle : 2 ^ i ≤ 2 ^ 62 := Nat.pow_le_pow_right (by decide) hi
  have hc : ((2 : Int) ^ i - 1) = ((2 ^ i - 1 : Nat) : Int) := by
    rw [Int.natCast_sub hpos]; simp
  have hd : (2 : Int) ^ i ∣ 18446744073709551616 := ⟨2 ^ (64 - i), by rw [← Int.pow_add, show i + (64 - i) = 64 by omega]; rfl⟩
  rw [hc]
  show IntKind.i64.wrap (((BitVec.ofInt 64 x &&& BitVec.ofInt 64 ((2 ^ i - 1 : Nat) : Int)).toNat : Nat) : Int) = _
  rw [BitVec.toNat_and, BitVec.toNat_ofInt, BitVec.ofInt_natCast, BitVec.toNat_ofNat, Nat.mod_eq_of_lt (a := 2 ^ i - 1) (by omega), Nat.and_two_pow_sub_one_eq_mod]
  have e : (((x % ((2 ^ 64 : Nat) : Int)).toNat % 2 ^ i : Nat) : Int) = x % 2 ^ i := by
    rw [Int.natCast_emod, Int.toNat_of_nonneg (Int.emod_nonneg _ (by decide))]
    rw [show ((2 ^ 64 : Nat) : Int) = 18446744073709551616 from rfl]
    rw [show ((2 ^ i : Nat) : Int) = (2 : Int) ^ i by simp]
    exact Int.emod_emod_of_dvd _ hd
  rw [e, IntKind.wrap_i64]
  have h1 : 0 ≤ x % 2 ^ i := Int.emod_nonneg _ (by have : (0 : Int) < 2 ^ i := Int.pow_pos (by omega); omega)
  have h2 : x % 2 ^ i < 2 ^ i := Int.emod_lt_of_pos _ (Int.pow_pos (by omega))
  have h3 : (2 : Int) ^ i ≤ 2 ^ 62 := by exact_mod_cast hle
  omega

theorem mask40 (x : Int) : Go.bits .and .i64 x 1099511627775 = x % 1099511627776 := and_mask64 x 40 (by decide)
theorem mask41 (x : Int) : Go.bits .and .i64 x 2199023255551 = x % 2199023255552 := and_mask64 x 41 (by decide)
theorem mask32 (x : Int) : Go.bits .and .i64 x 4294967295 = x % 4294967296 := and_mask64 x 32 (by decide)
theorem mask20 (x : Int) : Go.bits .and .i64 x 1048575 = x % 1048576 := and_mask64 x 20 (by decide)
theorem mask16 (x : Int) : Go.bits .and .i64 x 65535 = x % 65536 := and_mask64 x 16 (by decide)

theorem bnd {a : Int} (h : (Lit.int .i64 a).wf = true) : -9223372036854775808 ≤ a ∧ a ≤ 9223372036854775807 := by
  simpa [Lit.wf, IntKind.min, IntKind.max, IntKind.bits, IntKind.signed] using h

theorem mx_def (a b : Int) : mx a b = if a < b then b else a := by unfold mx; omega
theorem mn_def (a b : Int) : mn a b = if a < b then a else b := by unfold mn; omega
theorem w64 (a : Int) : wrap64 a = (a + 9223372036854775808) % 18446744073709551616 - 9223372036854775808 := by unfold wrap64; omega
theorem u64 (a : Int) : IntKind.u64.wrap a = a % 18446744073709551616 := by simp [IntKind.wrap, IntKind.bits, IntKind.signed]
end Go.Proofs.Ytohlendphajhhaa.Aid
