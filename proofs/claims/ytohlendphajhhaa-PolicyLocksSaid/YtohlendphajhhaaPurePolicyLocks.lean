/- The row of PolicyLocks, on whole numbers: behind as many failures as the limit it is locked, and no sooner; at every int64 input; no condition. -/
import Derived.Test.YtohlendphajhhaaPPolicyLocksx1
import Derived.Test.YtohlendphajhhaaAid
namespace Go.Proofs.Ytohlendphajhhaa.Pure
open Go.RowKit Go.Proofs.Ytohlendphajhhaa.PPolicyLocks Go.Proofs.YtohlendphajhhaaW.PrintWords Go.Proofs.YtohlendphajhhaaW.PrintLast Go.Proofs.Ytohlendphajhhaa.Aid

theorem locked (a b : Int) : policy_Locked.f a b = some (decide (a ≥ max b 1)) := by
  unfold policy_Locked.f; rw [mx_def]
  congr 1; apply decide_eq_decide.2; split <;> omega

theorem fail (a b : Int) (ha : -9223372036854775808 ≤ a ∧ a ≤ 9223372036854775807) (hb : -9223372036854775808 ≤ b ∧ b ≤ 9223372036854775807) :
    policy_Fail.f a b = some (min (max a 0 + 1) (max b 1)) := by
  unfold policy_Fail.f
  simp only [mx_def, w64]
  (repeat' split) <;> congr 1 <;> omega

theorem later (a b : Int) (ha : -9223372036854775808 ≤ a ∧ a ≤ 9223372036854775807) (hb : 0 ≤ b ∧ b ≤ 9223372036854775807) :
    policy_later.f a b = some (min (a + b) 9223372036854775807) := by
  unfold policy_later.f
  simp only [w64]
  (repeat' split) <;> congr 1 <;> omega

theorem life (a m n : Int) (ha : -9223372036854775808 ≤ a ∧ a ≤ 9223372036854775807) (hm : -9223372036854775808 ≤ m ∧ m ≤ 9223372036854775807) (hn : -9223372036854775808 ≤ n ∧ n ≤ 9223372036854775807) :
    policy_Life.f a m n = some (min (n + (if a < 1 ∨ a > max m 0 then max m 0 else a)) 9223372036854775807) := by
  unfold policy_Life.f
  simp only [mx_def]
  by_cases h0 : a < 1
  · rw [if_pos h0, later n _ hn (by split <;> omega)]
    simp only [Option.bind_some]
    congr 1; split <;> split <;> omega
  · rw [if_neg h0]
    by_cases h1 : a > max m 0
    · rw [if_pos (by split <;> omega), later n _ hn (by split <;> omega)]
      simp only [Option.bind_some]
      congr 1; split <;> split <;> omega
    · rw [if_neg (by split <;> omega), later n _ hn (by omega)]
      simp only [Option.bind_some]
      congr 1; split <;> omega

theorem reaches (a b o : Int) (ha : -9223372036854775808 ≤ a ∧ a ≤ 9223372036854775807) (hb : 0 ≤ b ∧ b ≤ 9223372036854775807) (ho : -9223372036854775808 ≤ o ∧ o ≤ 9223372036854775807) :
    policy_reaches.f a b o = some (decide (a + b ≥ o)) := by
  unfold policy_reaches.f
  simp only [u64]
  by_cases h0 : a ≥ o
  · rw [if_pos h0]; congr 1; simp; omega
  · rw [if_neg h0]
    by_cases h1 : b > 0
    · rw [if_pos h1]; congr 1; apply decide_eq_decide.2; omega
    · rw [if_neg h1]; congr 1; simp; omega

def judgeOf (now from_ until_ skew : Int) : Int := if now + max skew 0 < from_ then 1 else if now ≥ until_ + max skew 0 then 2 else 0

theorem judge (a b c d : Int) (ha : -9223372036854775808 ≤ a ∧ a ≤ 9223372036854775807) (hb : -9223372036854775808 ≤ b ∧ b ≤ 9223372036854775807) (hc : -9223372036854775808 ≤ c ∧ c ≤ 9223372036854775807) (hd : -9223372036854775808 ≤ d ∧ d ≤ 9223372036854775807) :
    policy_Judge.f a b c d = some (judgeOf a b c d) := by
  unfold policy_Judge.f judgeOf
  have e : mx d 0 = max d 0 := by rw [mx_def]; split <;> omega
  rw [e, reaches a _ b ha (by omega) hb]
  simp only [Option.bind_some, u64, decide_eq_true_eq]
  (repeat' split) <;> first | rfl | omega

theorem is_shown : sluicewaylaw11_shown.f = some true := by decide +kernel

theorem rounds (L n : Int) (hL : 0 ≤ L ∧ L ≤ 100) (hn : 0 ≤ n ∧ n ≤ 200) (d : Nat) : ∀ (k : Nat) (i : Int), 0 ≤ i → i ≤ n → n - i = d → d < k →
    sluicewaylaw11_PolicyLocks.l0 k L n true (min i (max L 1)) i = some true := by
  induction d with
  | zero =>
    intro k i h0 h1 hd hk
    obtain ⟨k, rfl⟩ : ∃ m, k = m + 1 := ⟨k - 1, by omega⟩
    simp only [sluicewaylaw11_PolicyLocks.l0]
    rw [if_neg (by omega), if_pos trivial]
    congr 1
    rw [mx_def, mn_def, beq_iff_eq]
    (repeat' split) <;> omega
  | succ d ih =>
    intro k i h0 h1 hd hk
    obtain ⟨k, rfl⟩ : ∃ m, k = m + 1 := ⟨k - 1, by omega⟩
    simp only [sluicewaylaw11_PolicyLocks.l0]
    rw [if_pos (by omega), locked, fail _ _ (by omega) (by omega)]
    simp only [Option.bind_some]
    rw [if_neg, if_neg (by omega), if_neg (by rw [w64]; omega)]
    · have e1 : min (max (min i (max L 1)) 0 + 1) (max L 1) = min (i + 1) (max L 1) := by omega
      have e2 : wrap64 (i + 1) = i + 1 := by rw [w64]; omega
      rw [e1, e2]
      exact ih k (i + 1) (by omega) (by omega) (by omega) (by omega)
    · rw [mx_def]
      simp only [bne_iff_ne, ne_eq, Decidable.not_not, decide_eq_decide]
      split <;> omega

theorem PolicyLocks : sluicewaylaw11_PolicyLocks.Pure := by
  intro a b _ _
  refine ⟨202, ?_⟩
  unfold sluicewaylaw11_PolicyLocks.f
  rw [is_shown]
  simp only [Option.bind_some, mask16]
  have e1 : Int.tmod (a % 65536) 101 = (a % 65536) % 101 := Int.tmod_eq_emod_of_nonneg (by omega)
  have e2 : Int.tmod (b % 65536) 201 = (b % 65536) % 201 := Int.tmod_eq_emod_of_nonneg (by omega)
  rw [e1, e2]
  have h := rounds (a % 65536 % 101) (b % 65536 % 201) (by omega) (by omega) (b % 65536 % 201).toNat 202 0 (by omega) (by omega) (by omega) (by omega)
  have e3 : min (0 : Int) (max (a % 65536 % 101) 1) = 0 := by omega
  rw [e3] at h
  exact h

end Go.Proofs.Ytohlendphajhhaa.Pure
