/- The row of PolicySame, on whole numbers: a clock is not skewed from itself, and what is over when it begins is never good; at every int64 input; no condition. -/
import Derived.Test.YtohlendphajhhaaPPolicySamex1
import Derived.Test.YtohlendphajhhaaAid
namespace Go.Proofs.Ytohlendphajhhaa.Pure
open Go.RowKit Go.Proofs.Ytohlendphajhhaa.PPolicySame Go.Proofs.YtohlendphajhhaaW.PrintWords Go.Proofs.YtohlendphajhhaaW.PrintLast Go.Proofs.Ytohlendphajhhaa.Aid

theorem locked (a b : Int) : policy_Locked.f a b = some (decide (a ≥ max b 1)) := by
  unfold policy_Locked.f; rw [mx_def]
  congr 1; apply decide_eq_decide.2; split <;> omega

theorem fail (a b : Int) (ha : -9223372036854775808 ≤ a ∧ a ≤ 9223372036854775807) (hb : -9223372036854775808 ≤ b ∧ b ≤ 9223372036854775807) :
    policy_Fail.f a b = some (min (max a 0 + 1) (max b 1)) := by
  unfold policy_Fail.f
  simp only [mx_def, w64]
  (repeat' split) <;> congr 1 <;> omega

theorem later (a b : Int) (ha : -9223372036854775808 ≤ a ∧ a ≤ 9223372036854775807) (hb : 0 ≤ b ∧ b ≤ 9223372036854775807) :
    policy_later.f a b = some (min (a + b) 9223372036854775807) := by
  unfold policy_later.f
  simp only [w64]
  (repeat' split) <;> congr 1 <;> omega

theorem life (a m n : Int) (ha : -9223372036854775808 ≤ a ∧ a ≤ 9223372036854775807) (hm : -9223372036854775808 ≤ m ∧ m ≤ 9223372036854775807) (hn : -9223372036854775808 ≤ n ∧ n ≤ 9223372036854775807) :
    policy_Life.f a m n = some (min (n + (if a < 1 ∨ a > max m 0 then max m 0 else a)) 9223372036854775807) := by
  unfold policy_Life.f
  simp only [mx_def]
  by_cases h0 : a < 1
  · rw [if_pos h0, later n _ hn (by split <;> omega)]
    simp only [Option.bind_some]
    congr 1; split <;> split <;> omega
  · rw [if_neg h0]
    by_cases h1 : a > max m 0
    · rw [if_pos (by split <;> omega), later n _ hn (by split <;> omega)]
      simp only [Option.bind_some]
      congr 1; split <;> split <;> omega
    · rw [if_neg (by split <;> omega), later n _ hn (by omega)]
      simp only [Option.bind_some]
      congr 1; split <;> omega

theorem reaches (a b o : Int) (ha : -9223372036854775808 ≤ a ∧ a ≤ 9223372036854775807) (hb : 0 ≤ b ∧ b ≤ 9223372036854775807) (ho : -9223372036854775808 ≤ o ∧ o ≤ 9223372036854775807) :
    policy_reaches.f a b o = some (decide (a + b ≥ o)) := by
  unfold policy_reaches.f
  simp only [u64]
  by_cases h0 : a ≥ o
  · rw [if_pos h0]; congr 1; simp; omega
  · rw [if_neg h0]
    by_cases h1 : b > 0
    · rw [if_pos h1]; congr 1; apply decide_eq_decide.2; omega
    · rw [if_neg h1]; congr 1; simp; omega

def judgeOf (now from_ until_ skew : Int) : Int := if now + max skew 0 < from_ then 1 else if now ≥ until_ + max skew 0 then 2 else 0

theorem judge (a b c d : Int) (ha : -9223372036854775808 ≤ a ∧ a ≤ 9223372036854775807) (hb : -9223372036854775808 ≤ b ∧ b ≤ 9223372036854775807) (hc : -9223372036854775808 ≤ c ∧ c ≤ 9223372036854775807) (hd : -9223372036854775808 ≤ d ∧ d ≤ 9223372036854775807) :
    policy_Judge.f a b c d = some (judgeOf a b c d) := by
  unfold policy_Judge.f judgeOf
  have e : mx d 0 = max d 0 := by rw [mx_def]; split <;> omega
  rw [e, reaches a _ b ha (by omega) hb]
  simp only [Option.bind_some, u64, decide_eq_true_eq]
  (repeat' split) <;> first | rfl | omega

theorem is_shown : sluicewaylaw11_shown.f = some true := by decide +kernel

theorem skewed (a b c : Int) (ha : -9223372036854775808 ≤ a ∧ a ≤ 9223372036854775807) (hb : -9223372036854775808 ≤ b ∧ b ≤ 9223372036854775807) (hc : -9223372036854775808 ≤ c ∧ c ≤ 9223372036854775807) :
    policy_Skewed.f a b c = some (decide (b - a > max c 0 ∨ a - b > max c 0)) := by
  unfold policy_Skewed.f
  have e : mx c 0 = max c 0 := by rw [mx_def]; split <;> omega
  rw [e, reaches a _ b ha (by omega) hb, reaches b _ a hb (by omega) ha]
  simp only [Option.bind_some, decide_eq_true_eq]
  split
  · congr 1
    rw [← decide_not]
    apply decide_eq_decide.2; omega
  · congr 1
    symm; apply decide_eq_true; omega

theorem valid (a b c d : Int) (ha : -9223372036854775808 ≤ a ∧ a ≤ 9223372036854775807) (hb : -9223372036854775808 ≤ b ∧ b ≤ 9223372036854775807) (hc : -9223372036854775808 ≤ c ∧ c ≤ 9223372036854775807) (hd : -9223372036854775808 ≤ d ∧ d ≤ 9223372036854775807) :
    policy_Valid.f a b c d = some (judgeOf a b c d == 0) := by
  unfold policy_Valid.f
  rw [judge a b c d ha hb hc hd]; rfl

theorem judge0 (a b c d : Int) : (judgeOf a b c d == 0) = decide (a + max d 0 ≥ b ∧ a < c + max d 0) := by
  rw [Bool.eq_iff_iff]
  simp only [beq_iff_eq, decide_eq_true_eq, judgeOf]
  (repeat' split) <;> omega

theorem same_j0 (a b c d : Int) (ha : -9223372036854775808 ≤ a ∧ a ≤ 9223372036854775807) (hb : -9223372036854775808 ≤ b ∧ b ≤ 9223372036854775807) (hc : -9223372036854775808 ≤ c ∧ c ≤ 9223372036854775807) (hd : -9223372036854775808 ≤ d ∧ d ≤ 9223372036854775807) (g : Bool) (hg : g = decide (a ≥ b ∧ a < c)) :
    sluicewaylaw11_PolicySame.j0 1 a b c d true g = some true := by
  simp only [sluicewaylaw11_PolicySame.j0]
  rw [skewed a a d ha ha hd, skewed a b 0 ha hb (by omega), valid a b b 0 ha hb hb (by omega), valid a b c 0 ha hb hc (by omega), judge0, judge0]
  simp only [Option.bind_some, if_true, decide_eq_true_eq]
  rw [if_neg (by omega), if_neg (by omega), if_pos]
  · congr 1
    rw [beq_iff_eq, Bool.eq_iff_iff]
    simp only [decide_eq_true_eq, bne_iff_ne]
    omega
  · rw [hg, beq_iff_eq, decide_eq_decide]; omega

theorem PolicySame : sluicewaylaw11_PolicySame.Pure := by
  intro a b c d wa wb wc wd
  have ha := bnd wa; have hb := bnd wb; have hc := bnd wc; have hd := bnd wd
  refine ⟨1, ?_⟩
  unfold sluicewaylaw11_PolicySame.f
  rw [is_shown]
  simp only [Option.bind_some]
  split
  · refine same_j0 a b c d ha hb hc hd _ ?_
    rw [decide_eq_decide]; omega
  · refine same_j0 a b c d ha hb hc hd _ ?_
    symm; apply decide_eq_false; omega

end Go.Proofs.Ytohlendphajhhaa.Pure
