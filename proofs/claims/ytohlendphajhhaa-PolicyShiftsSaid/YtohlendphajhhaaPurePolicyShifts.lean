/- The row of PolicyShifts, on whole numbers: what time it is does not matter, but how far apart; at every int64 input; no condition. -/
import Derived.Test.YtohlendphajhhaaPPolicyShiftsx1
import Derived.Test.YtohlendphajhhaaAid
namespace Go.Proofs.Ytohlendphajhhaa.Pure
open Go.RowKit Go.Proofs.Ytohlendphajhhaa.PPolicyShifts Go.Proofs.YtohlendphajhhaaW.PrintWords Go.Proofs.YtohlendphajhhaaW.PrintLast Go.Proofs.Ytohlendphajhhaa.Aid

theorem locked (a b : Int) : policy_Locked.f a b = some (decide (a ≥ max b 1)) := by
  unfold policy_Locked.f; rw [mx_def]
  congr 1; apply decide_eq_decide.2; split <;> omega

theorem fail (a b : Int) (ha : -9223372036854775808 ≤ a ∧ a ≤ 9223372036854775807) (hb : -9223372036854775808 ≤ b ∧ b ≤ 9223372036854775807) :
    policy_Fail.f a b = some (min (max a 0 + 1) (max b 1)) := by
  unfold policy_Fail.f
  simp only [mx_def, w64]
  (repeat' split) <;> congr 1 <;> omega

theorem later (a b : Int) (ha : -9223372036854775808 ≤ a ∧ a ≤ 9223372036854775807) (hb : 0 ≤ b ∧ b ≤ 9223372036854775807) :
    policy_later.f a b = some (min (a + b) 9223372036854775807) := by
  unfold policy_later.f
  simp only [w64]
  (repeat' split) <;> congr 1 <;> omega

theorem life (a m n : Int) (ha : -9223372036854775808 ≤ a ∧ a ≤ 9223372036854775807) (hm : -9223372036854775808 ≤ m ∧ m ≤ 9223372036854775807) (hn : -9223372036854775808 ≤ n ∧ n ≤ 9223372036854775807) :
    policy_Life.f a m n = some (min (n + (if a < 1 ∨ a > max m 0 then max m 0 else a)) 9223372036854775807) := by
  unfold policy_Life.f
  simp only [mx_def]
  by_cases h0 : a < 1
  · rw [if_pos h0, later n _ hn (by split <;> omega)]
    simp only [Option.bind_some]
    congr 1; split <;> split <;> omega
  · rw [if_neg h0]
    by_cases h1 : a > max m 0
    · rw [if_pos (by split <;> omega), later n _ hn (by split <;> omega)]
      simp only [Option.bind_some]
      congr 1; split <;> split <;> omega
    · rw [if_neg (by split <;> omega), later n _ hn (by omega)]
      simp only [Option.bind_some]
      congr 1; split <;> omega

theorem reaches (a b o : Int) (ha : -9223372036854775808 ≤ a ∧ a ≤ 9223372036854775807) (hb : 0 ≤ b ∧ b ≤ 9223372036854775807) (ho : -9223372036854775808 ≤ o ∧ o ≤ 9223372036854775807) :
    policy_reaches.f a b o = some (decide (a + b ≥ o)) := by
  unfold policy_reaches.f
  simp only [u64]
  by_cases h0 : a ≥ o
  · rw [if_pos h0]; congr 1; simp; omega
  · rw [if_neg h0]
    by_cases h1 : b > 0
    · rw [if_pos h1]; congr 1; apply decide_eq_decide.2; omega
    · rw [if_neg h1]; congr 1; simp; omega

def judgeOf (now from_ until_ skew : Int) : Int := if now + max skew 0 < from_ then 1 else if now ≥ until_ + max skew 0 then 2 else 0

theorem judge (a b c d : Int) (ha : -9223372036854775808 ≤ a ∧ a ≤ 9223372036854775807) (hb : -9223372036854775808 ≤ b ∧ b ≤ 9223372036854775807) (hc : -9223372036854775808 ≤ c ∧ c ≤ 9223372036854775807) (hd : -9223372036854775808 ≤ d ∧ d ≤ 9223372036854775807) :
    policy_Judge.f a b c d = some (judgeOf a b c d) := by
  unfold policy_Judge.f judgeOf
  have e : mx d 0 = max d 0 := by rw [mx_def]; split <;> omega
  rw [e, reaches a _ b ha (by omega) hb]
  simp only [Option.bind_some, u64, decide_eq_true_eq]
  (repeat' split) <;> first | rfl | omega

theorem is_shown : sluicewaylaw11_shown.f = some true := by decide +kernel

theorem skewed (a b c : Int) (ha : -9223372036854775808 ≤ a ∧ a ≤ 9223372036854775807) (hb : -9223372036854775808 ≤ b ∧ b ≤ 9223372036854775807) (hc : -9223372036854775808 ≤ c ∧ c ≤ 9223372036854775807) :
    policy_Skewed.f a b c = some (decide (b - a > max c 0 ∨ a - b > max c 0)) := by
  unfold policy_Skewed.f
  have e : mx c 0 = max c 0 := by rw [mx_def]; split <;> omega
  rw [e, reaches a _ b ha (by omega) hb, reaches b _ a hb (by omega) ha]
  simp only [Option.bind_some, decide_eq_true_eq]
  split
  · congr 1
    rw [← decide_not]
    apply decide_eq_decide.2; omega
  · congr 1
    symm; apply decide_eq_true; omega

theorem PolicyShifts : sluicewaylaw11_PolicyShifts.Pure := by
  intro a b c d e _ _ _ _ _
  unfold sluicewaylaw11_PolicyShifts.f
  simp only [mask40]
  have h1 : 0 ≤ a % 1099511627776 ∧ a % 1099511627776 < 1099511627776 := by omega
  have h2 : 0 ≤ b % 1099511627776 ∧ b % 1099511627776 < 1099511627776 := by omega
  have h3 : 0 ≤ c % 1099511627776 ∧ c % 1099511627776 < 1099511627776 := by omega
  have h4 : 0 ≤ d % 1099511627776 ∧ d % 1099511627776 < 1099511627776 := by omega
  have h5 : 0 ≤ e % 1099511627776 ∧ e % 1099511627776 < 1099511627776 := by omega
  generalize a % 1099511627776 = A at *
  generalize b % 1099511627776 = B at *
  generalize c % 1099511627776 = C at *
  generalize d % 1099511627776 = D at *
  generalize e % 1099511627776 = E at *
  have e1 : wrap64 (A + E) = A + E := by rw [w64]; omega
  have e2 : wrap64 (B + E) = B + E := by rw [w64]; omega
  have e3 : wrap64 (C + E) = C + E := by rw [w64]; omega
  rw [e1, e2, e3, is_shown, judge A B C D (by omega) (by omega) (by omega) (by omega), judge (A + E) (B + E) (C + E) D (by omega) (by omega) (by omega) (by omega), skewed A B D (by omega) (by omega) (by omega), skewed (A + E) (B + E) D (by omega) (by omega) (by omega), life B C A (by omega) (by omega) (by omega), life B C (A + E) (by omega) (by omega) (by omega)]
  simp only [Option.bind_some, if_true]
  rw [if_pos, if_pos]
  · congr 1
    rw [beq_iff_eq, w64]
    split <;> omega
  · rw [beq_iff_eq, decide_eq_decide]; omega
  · unfold judgeOf
    (repeat' split) <;> omega

end Go.Proofs.Ytohlendphajhhaa.Pure
