/- The row of PolicyLives, on whole numbers: nothing lives longer than it may; at every int64 input; no condition. -/
import Derived.Test.YtohlendphajhhaaPPolicyLivesx1
import Derived.Test.YtohlendphajhhaaAid
namespace Go.Proofs.Ytohlendphajhhaa.Pure
open Go.RowKit Go.Proofs.Ytohlendphajhhaa.PPolicyLives Go.Proofs.YtohlendphajhhaaW.PrintWords Go.Proofs.YtohlendphajhhaaW.PrintLast Go.Proofs.Ytohlendphajhhaa.Aid

theorem locked (a b : Int) : policy_Locked.f a b = some (decide (a ≥ max b 1)) := by
  unfold policy_Locked.f; rw [mx_def]
  congr 1; apply decide_eq_decide.2; split <;> omega

theorem fail (a b : Int) (ha : -9223372036854775808 ≤ a ∧ a ≤ 9223372036854775807) (hb : -9223372036854775808 ≤ b ∧ b ≤ 9223372036854775807) :
    policy_Fail.f a b = some (min (max a 0 + 1) (max b 1)) := by
  unfold policy_Fail.f
  simp only [mx_def, w64]
  (repeat' split) <;> congr 1 <;> omega

theorem later (a b : Int) (ha : -9223372036854775808 ≤ a ∧ a ≤ 9223372036854775807) (hb : 0 ≤ b ∧ b ≤ 9223372036854775807) :
    policy_later.f a b = some (min (a + b) 9223372036854775807) := by
  unfold policy_later.f
  simp only [w64]
  (repeat' split) <;> congr 1 <;> omega

theorem life (a m n : Int) (ha : -9223372036854775808 ≤ a ∧ a ≤ 9223372036854775807) (hm : -9223372036854775808 ≤ m ∧ m ≤ 9223372036854775807) (hn : -9223372036854775808 ≤ n ∧ n ≤ 9223372036854775807) :
    policy_Life.f a m n = some (min (n + (if a < 1 ∨ a > max m 0 then max m 0 else a)) 9223372036854775807) := by
  unfold policy_Life.f
  simp only [mx_def]
  by_cases h0 : a < 1
  · rw [if_pos h0, later n _ hn (by split <;> omega)]
    simp only [Option.bind_some]
    congr 1; split <;> split <;> omega
  · rw [if_neg h0]
    by_cases h1 : a > max m 0
    · rw [if_pos (by split <;> omega), later n _ hn (by split <;> omega)]
      simp only [Option.bind_some]
      congr 1; split <;> split <;> omega
    · rw [if_neg (by split <;> omega), later n _ hn (by omega)]
      simp only [Option.bind_some]
      congr 1; split <;> omega

theorem reaches (a b o : Int) (ha : -9223372036854775808 ≤ a ∧ a ≤ 9223372036854775807) (hb : 0 ≤ b ∧ b ≤ 9223372036854775807) (ho : -9223372036854775808 ≤ o ∧ o ≤ 9223372036854775807) :
    policy_reaches.f a b o = some (decide (a + b ≥ o)) := by
  unfold policy_reaches.f
  simp only [u64]
  by_cases h0 : a ≥ o
  · rw [if_pos h0]; congr 1; simp; omega
  · rw [if_neg h0]
    by_cases h1 : b > 0
    · rw [if_pos h1]; congr 1; apply decide_eq_decide.2; omega
    · rw [if_neg h1]; congr 1; simp; omega

def judgeOf (now from_ until_ skew : Int) : Int := if now + max skew 0 < from_ then 1 else if now ≥ until_ + max skew 0 then 2 else 0

theorem judge (a b c d : Int) (ha : -9223372036854775808 ≤ a ∧ a ≤ 9223372036854775807) (hb : -9223372036854775808 ≤ b ∧ b ≤ 9223372036854775807) (hc : -9223372036854775808 ≤ c ∧ c ≤ 9223372036854775807) (hd : -9223372036854775808 ≤ d ∧ d ≤ 9223372036854775807) :
    policy_Judge.f a b c d = some (judgeOf a b c d) := by
  unfold policy_Judge.f judgeOf
  have e : mx d 0 = max d 0 := by rw [mx_def]; split <;> omega
  rw [e, reaches a _ b ha (by omega) hb]
  simp only [Option.bind_some, u64, decide_eq_true_eq]
  (repeat' split) <;> first | rfl | omega

theorem is_shown : sluicewaylaw11_shown.f = some true := by decide +kernel

theorem PolicyLives : sluicewaylaw11_PolicyLives.Pure := by
  intro a b c d _ _ _ _
  unfold sluicewaylaw11_PolicyLives.f
  simp only [mask40]
  have h1 : 0 ≤ a % 1099511627776 ∧ a % 1099511627776 < 1099511627776 := by omega
  have h2 : 0 ≤ b % 1099511627776 ∧ b % 1099511627776 < 1099511627776 := by omega
  have h3 : 0 ≤ c % 1099511627776 ∧ c % 1099511627776 < 1099511627776 := by omega
  have h4 : 0 ≤ d % 1099511627776 ∧ d % 1099511627776 < 1099511627776 := by omega
  generalize a % 1099511627776 = A at *
  generalize b % 1099511627776 = B at *
  generalize c % 1099511627776 = C at *
  generalize d % 1099511627776 = D at *
  have e0 : wrap64 (mx A 1 + D) = max A 1 + D := by rw [mx_def, w64]; split <;> omega
  have e1 : wrap64 (C + B) = C + B := by rw [w64]; omega
  have e2 : wrap64 (C + mn A B) = C + min A B := by rw [mn_def, w64]; split <;> omega
  rw [e0, e1, e2, is_shown, life A B C (by omega) (by omega) (by omega), life (max A 1 + D) B C (by omega) (by omega) (by omega)]
  simp only [Option.bind_some, if_true]
  have k1 : (if A < 1 ∨ A > max B 0 then max B 0 else A) = if A = 0 then B else min A B := by (repeat' split) <;> omega
  have k2 : (if max A 1 + D < 1 ∨ max A 1 + D > max B 0 then max B 0 else max A 1 + D) = min (max A 1 + D) B := by split <;> omega
  rw [k1, k2]
  by_cases h0 : A = 0
  · rw [if_pos h0, if_pos h0, if_pos (by omega)]
    simp; omega
  · rw [if_neg h0, if_neg h0, if_pos (by omega), if_pos (by omega)]
    simp; omega

end Go.Proofs.Ytohlendphajhhaa.Pure
