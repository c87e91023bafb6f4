/- What the document's answer for SHA-1 reckons with whole numbers is what the words make. -/
import Derived.Test.YtijnmoceafcamaaShaText
import Derived.Test.YtijnmoceafcamaaPShaLengthsx3
namespace Go.Proofs.Ytijnmoceafcamaa.Sha
set_option linter.unusedVariables false
set_option linter.unusedSimpArgs false
open Go.RowKit
open Go.Proofs.YtijnmoceafcamaaW.PrintWords Go.Proofs.YtijnmoceafcamaaW.PrintMore
open Go.Proofs.Ytijnmoceafcamaa.PShaLengths
def w32 (x : Int) : Prop := 0 ≤ x ∧ x < 4294967296
theorem i64_wrap_small (x : Int) (h : 0 ≤ x ∧ x < 9223372036854775808) : IntKind.i64.wrap x = x := by
  rw [IntKind.wrap_i64]; omega
theorem wrap64_small (x : Int) (h : 0 ≤ x ∧ x < 9223372036854775808) : wrap64 x = x := by unfold wrap64; omega
theorem and64 (a b : Nat) (ha : a < 4294967296) (hb : b < 4294967296) : Go.bits .and .i64 a b = ((a &&& b : Nat) : Int) := by
  show IntKind.i64.wrap (((BitVec.ofInt 64 a &&& BitVec.ofInt 64 b).toNat : Nat) : Int) = _
  rw [BitVec.toNat_and, BitVec.ofInt_natCast, BitVec.ofInt_natCast, BitVec.toNat_ofNat, BitVec.toNat_ofNat, Nat.mod_eq_of_lt (by omega), Nat.mod_eq_of_lt (by omega)]
  have : a &&& b < 2 ^ 32 := Nat.and_lt_two_pow _ (by omega)
  exact i64_wrap_small _ (by omega)
theorem or64 (a b : Nat) (ha : a < 4294967296) (hb : b < 4294967296) : Go.bits .or .i64 a b = ((a ||| b : Nat) : Int) := by
  show IntKind.i64.wrap (((BitVec.ofInt 64 a ||| BitVec.ofInt 64 b).toNat : Nat) : Int) = _
  rw [BitVec.toNat_or, BitVec.ofInt_natCast, BitVec.ofInt_natCast, BitVec.toNat_ofNat, BitVec.toNat_ofNat, Nat.mod_eq_of_lt (by omega), Nat.mod_eq_of_lt (by omega)]
  have : a ||| b < 2 ^ 32 := Nat.or_lt_two_pow (by omega) (by omega)
  exact i64_wrap_small _ (by omega)
theorem xor64 (a b : Nat) (ha : a < 4294967296) (hb : b < 4294967296) : Go.bits .xor .i64 a b = ((a ^^^ b : Nat) : Int) := by
  show IntKind.i64.wrap (((BitVec.ofInt 64 a ^^^ BitVec.ofInt 64 b).toNat : Nat) : Int) = _
  rw [BitVec.toNat_xor, BitVec.ofInt_natCast, BitVec.ofInt_natCast, BitVec.toNat_ofNat, BitVec.toNat_ofNat, Nat.mod_eq_of_lt (by omega), Nat.mod_eq_of_lt (by omega)]
  have : a ^^^ b < 2 ^ 32 := Nat.xor_lt_two_pow (by omega) (by omega)
  exact i64_wrap_small _ (by omega)
theorem nat_of {x : Int} (h : w32 x) : ∃ a : Nat, x = a ∧ a < 4294967296 := ⟨x.toNat, by have := h.1; omega, by have := h.1; have := h.2; omega⟩
theorem xor_same {x y : Int} (hx : w32 x) (hy : w32 y) : Go.bits .xor .i64 x y = Go.bits .xor .u32 x y ∧ w32 (Go.bits .xor .u32 x y) := by
  obtain ⟨a, rfl, ha⟩ := nat_of hx
  obtain ⟨b, rfl, hb⟩ := nat_of hy
  rw [xor64 a b ha hb, xor32 a b ha hb]
  have : a ^^^ b < 2 ^ 32 := Nat.xor_lt_two_pow (by omega) (by omega)
  exact ⟨rfl, by unfold w32; omega⟩
theorem and_same {x y : Int} (hx : w32 x) (hy : w32 y) : Go.bits .and .i64 x y = Go.bits .and .u32 x y ∧ w32 (Go.bits .and .u32 x y) := by
  obtain ⟨a, rfl, ha⟩ := nat_of hx
  obtain ⟨b, rfl, hb⟩ := nat_of hy
  rw [and64 a b ha hb, and32 a b ha hb]
  have : a &&& b < 2 ^ 32 := Nat.and_lt_two_pow _ (by omega)
  exact ⟨rfl, by unfold w32; omega⟩
theorem or_same {x y : Int} (hx : w32 x) (hy : w32 y) : Go.bits .or .i64 x y = Go.bits .or .u32 x y ∧ w32 (Go.bits .or .u32 x y) := by
  obtain ⟨a, rfl, ha⟩ := nat_of hx
  obtain ⟨b, rfl, hb⟩ := nat_of hy
  rw [or64 a b ha hb, or32 a b ha hb]
  have : a ||| b < 2 ^ 32 := Nat.or_lt_two_pow (by omega) (by omega)
  exact ⟨rfl, by unfold w32; omega⟩
theorem not_same {x : Int} (hx : w32 x) : wrap64 (4294967295 - x) = Go.bits .xor .u32 4294967295 x ∧ w32 (Go.bits .xor .u32 4294967295 x) := by
  obtain ⟨a, rfl, ha⟩ := nat_of hx
  have h1 : (4294967295 : Nat) ^^^ a = 4294967295 - a := by
    have h2 : a < 2 ^ 32 := by omega
    have h3 := BitVec.toNat_not (x := BitVec.ofNat 32 a)
    have h4 : (~~~ (BitVec.ofNat 32 a)) = BitVec.allOnes 32 ^^^ BitVec.ofNat 32 a := by rw [BitVec.allOnes_xor]
    rw [h4, BitVec.toNat_xor, BitVec.toNat_allOnes, BitVec.toNat_ofNat, Nat.mod_eq_of_lt h2] at h3
    simpa using h3
  rw [show (4294967295 : Int) = ((4294967295 : Nat) : Int) from rfl, xor32 4294967295 a (by omega) ha, h1, wrap64_small _ (by omega)]
  exact ⟨by omega, by unfold w32; omega⟩
theorem rot_same2 (x n : Int) (hx : w32 x) (hn : n = 1 ∨ n = 5 ∨ n = 30) : sluicewayref02_rotl.f x n = some (rot x n) ∧ w32 (rot x n) := by
  obtain ⟨a, rfl, ha⟩ := nat_of hx
  have key : ∀ (i : Nat) (hi : i = 1 ∨ i = 5 ∨ i = 30) , Go.bits .or .u32 (((a : Int) * 2 ^ i) % 4294967296) ((a : Int) / 2 ^ (32 - i)) = ((a : Int) * 2 ^ i) % 4294967296 + ((a : Int) * 2 ^ i) / 4294967296 ∧ w32 (((a : Int) * 2 ^ i) % 4294967296 + ((a : Int) * 2 ^ i) / 4294967296) := by
    intro i hi
    rcases hi with rfl | rfl | rfl
    · have e1 : ((a : Int) * 2 ^ 1) % 4294967296 = ((2 ^ 1 * (a % 2147483648) : Nat) : Int) := by omega
      have e2 : ((a : Int) / 2 ^ (32 - 1)) = ((a / 2147483648 : Nat) : Int) := by omega
      rw [e1, e2, or32 _ _ (by omega) (by omega), ← Nat.two_pow_add_eq_or_of_lt (by omega)]
      unfold w32
      omega
    · have e1 : ((a : Int) * 2 ^ 5) % 4294967296 = ((2 ^ 5 * (a % 134217728) : Nat) : Int) := by omega
      have e2 : ((a : Int) / 2 ^ (32 - 5)) = ((a / 134217728 : Nat) : Int) := by omega
      rw [e1, e2, or32 _ _ (by omega) (by omega), ← Nat.two_pow_add_eq_or_of_lt (by omega)]
      unfold w32
      omega
    · have e1 : ((a : Int) * 2 ^ 30) % 4294967296 = ((2 ^ 30 * (a % 4) : Nat) : Int) := by omega
      have e2 : ((a : Int) / 2 ^ (32 - 30)) = ((a / 4 : Nat) : Int) := by omega
      rw [e1, e2, or32 _ _ (by omega) (by omega), ← Nat.two_pow_add_eq_or_of_lt (by omega)]
      unfold w32
      omega
  have hr : ∀ (i : Nat) (hi : i = 1 ∨ i = 5 ∨ i = 30), sluicewayref02_rotl.f (a : Int) (i : Int) = some (((a : Int) * 2 ^ i) % 4294967296 + ((a : Int) * 2 ^ i) / 4294967296) := by
    intro i hi
    have hs : shl .i64 (a : Int) (IntKind.u64.wrap (i : Int)) = (a : Int) * 2 ^ i := by
      have h1 : IntKind.u64.wrap (i : Int) = i := by
        show (i : Int) % 18446744073709551616 = i
        omega
      rw [h1, shl]
      have h2 : min (i : Int).toNat IntKind.i64.bits = i := by rcases hi with rfl | rfl | rfl <;> rfl
      rw [h2]
      rcases hi with rfl | rfl | rfl <;> exact i64_wrap_small _ (by omega)
    have h0 : 0 ≤ IntKind.u64.wrap (i : Int) := by
      show 0 ≤ (i : Int) % 18446744073709551616
      omega
    rw [sluicewayref02_rotl.f, if_pos h0, hs]
    have hp : 0 ≤ (a : Int) * 2 ^ i ∧ (a : Int) * 2 ^ i < 9223372036854775808 := by rcases hi with rfl | rfl | rfl <;> omega
    rw [Int.tmod_eq_emod_of_nonneg hp.1, Int.tdiv_eq_ediv_of_nonneg hp.1, wrap64_small ((a : Int) * 2 ^ i / 4294967296) (by omega), wrap64_small _ (by omega)]
  rcases hn with rfl | rfl | rfl
  · have e : rot (a : Int) 1 = Go.bits .or .u32 (((a : Int) * 2 ^ 1) % 4294967296) ((a : Int) / 2 ^ (32 - 1)) := rfl
    rw [e, (key 1 (.inl rfl)).1]
    exact ⟨hr 1 (.inl rfl), (key 1 (.inl rfl)).2⟩
  · have e : rot (a : Int) 5 = Go.bits .or .u32 (((a : Int) * 2 ^ 5) % 4294967296) ((a : Int) / 2 ^ (32 - 5)) := rfl
    rw [e, (key 5 (.inr (.inl rfl))).1]
    exact ⟨hr 5 (.inr (.inl rfl)), (key 5 (.inr (.inl rfl))).2⟩
  · have e : rot (a : Int) 30 = Go.bits .or .u32 (((a : Int) * 2 ^ 30) % 4294967296) ((a : Int) / 2 ^ (32 - 30)) := rfl
    rw [e, (key 30 (.inr (.inr rfl))).1]
    exact ⟨hr 30 (.inr (.inr rfl)), (key 30 (.inr (.inr rfl))).2⟩
end Go.Proofs.Ytijnmoceafcamaa.Sha
