/- The row of PolicyTells, on whole numbers: every Judge, Valid, Skewed, Life, Fail and Locked is what the reference says, at every int64 input; no condition. -/
import Derived.Test.YtohlendphajhhaaPPolicyTellsx2
import Derived.Test.YtohlendphajhhaaAid
namespace Go.Proofs.Ytohlendphajhhaa.Pure
open Go.RowKit Go.Proofs.Ytohlendphajhhaa.PPolicyTells Go.Proofs.YtohlendphajhhaaW.PrintWords Go.Proofs.YtohlendphajhhaaW.PrintLast Go.Proofs.Ytohlendphajhhaa.Aid

theorem locked (a b : Int) : policy_Locked.f a b = some (decide (a ≥ max b 1)) := by
  unfold policy_Locked.f; rw [mx_def]
  congr 1; apply decide_eq_decide.2; split <;> omega

theorem fail (a b : Int) (ha : -9223372036854775808 ≤ a ∧ a ≤ 9223372036854775807) (hb : -9223372036854775808 ≤ b ∧ b ≤ 9223372036854775807) :
    policy_Fail.f a b = some (min (max a 0 + 1) (max b 1)) := by
  unfold policy_Fail.f
  simp only [mx_def, w64]
  (repeat' split) <;> congr 1 <;> omega

theorem later (a b : Int) (ha : -9223372036854775808 ≤ a ∧ a ≤ 9223372036854775807) (hb : 0 ≤ b ∧ b ≤ 9223372036854775807) :
    policy_later.f a b = some (min (a + b) 9223372036854775807) := by
  unfold policy_later.f
  simp only [w64]
  (repeat' split) <;> congr 1 <;> omega

theorem life (a m n : Int) (ha : -9223372036854775808 ≤ a ∧ a ≤ 9223372036854775807) (hm : -9223372036854775808 ≤ m ∧ m ≤ 9223372036854775807) (hn : -9223372036854775808 ≤ n ∧ n ≤ 9223372036854775807) :
    policy_Life.f a m n = some (min (n + (if a < 1 ∨ a > max m 0 then max m 0 else a)) 9223372036854775807) := by
  unfold policy_Life.f
  simp only [mx_def]
  by_cases h0 : a < 1
  · rw [if_pos h0, later n _ hn (by split <;> omega)]
    simp only [Option.bind_some]
    congr 1; split <;> split <;> omega
  · rw [if_neg h0]
    by_cases h1 : a > max m 0
    · rw [if_pos (by split <;> omega), later n _ hn (by split <;> omega)]
      simp only [Option.bind_some]
      congr 1; split <;> split <;> omega
    · rw [if_neg (by split <;> omega), later n _ hn (by omega)]
      simp only [Option.bind_some]
      congr 1; split <;> omega

theorem reaches (a b o : Int) (ha : -9223372036854775808 ≤ a ∧ a ≤ 9223372036854775807) (hb : 0 ≤ b ∧ b ≤ 9223372036854775807) (ho : -9223372036854775808 ≤ o ∧ o ≤ 9223372036854775807) :
    policy_reaches.f a b o = some (decide (a + b ≥ o)) := by
  unfold policy_reaches.f
  simp only [u64]
  by_cases h0 : a ≥ o
  · rw [if_pos h0]; congr 1; simp; omega
  · rw [if_neg h0]
    by_cases h1 : b > 0
    · rw [if_pos h1]; congr 1; apply decide_eq_decide.2; omega
    · rw [if_neg h1]; congr 1; simp; omega

def judgeOf (now from_ until_ skew : Int) : Int := if now + max skew 0 < from_ then 1 else if now ≥ until_ + max skew 0 then 2 else 0

theorem judge (a b c d : Int) (ha : -9223372036854775808 ≤ a ∧ a ≤ 9223372036854775807) (hb : -9223372036854775808 ≤ b ∧ b ≤ 9223372036854775807) (hc : -9223372036854775808 ≤ c ∧ c ≤ 9223372036854775807) (hd : -9223372036854775808 ≤ d ∧ d ≤ 9223372036854775807) :
    policy_Judge.f a b c d = some (judgeOf a b c d) := by
  unfold policy_Judge.f judgeOf
  have e : mx d 0 = max d 0 := by rw [mx_def]; split <;> omega
  rw [e, reaches a _ b ha (by omega) hb]
  simp only [Option.bind_some, u64, decide_eq_true_eq]
  (repeat' split) <;> first | rfl | omega

theorem is_shown : sluicewaylaw11_shown.f = some true := by decide +kernel

theorem skewed (a b c : Int) (ha : -9223372036854775808 ≤ a ∧ a ≤ 9223372036854775807) (hb : -9223372036854775808 ≤ b ∧ b ≤ 9223372036854775807) (hc : -9223372036854775808 ≤ c ∧ c ≤ 9223372036854775807) :
    policy_Skewed.f a b c = some (decide (b - a > max c 0 ∨ a - b > max c 0)) := by
  unfold policy_Skewed.f
  have e : mx c 0 = max c 0 := by rw [mx_def]; split <;> omega
  rw [e, reaches a _ b ha (by omega) hb, reaches b _ a hb (by omega) ha]
  simp only [Option.bind_some, decide_eq_true_eq]
  split
  · congr 1
    rw [← decide_not]
    apply decide_eq_decide.2; omega
  · congr 1
    symm; apply decide_eq_true; omega

theorem valid (a b c d : Int) (ha : -9223372036854775808 ≤ a ∧ a ≤ 9223372036854775807) (hb : -9223372036854775808 ≤ b ∧ b ≤ 9223372036854775807) (hc : -9223372036854775808 ≤ c ∧ c ≤ 9223372036854775807) (hd : -9223372036854775808 ≤ d ∧ d ≤ 9223372036854775807) :
    policy_Valid.f a b c d = some (judgeOf a b c d == 0) := by
  unfold policy_Valid.f
  rw [judge a b c d ha hb hc hd]; rfl

theorem judge0 (a b c d : Int) : (judgeOf a b c d == 0) = decide (a + max d 0 ≥ b ∧ a < c + max d 0) := by
  rw [Bool.eq_iff_iff]
  simp only [beq_iff_eq, decide_eq_true_eq, judgeOf]
  (repeat' split) <;> omega

theorem w32_lo (a : Int) : 0 ≤ a % 4294967296 ∧ a % 4294967296 < 4294967296 := by omega
theorem plus_ref (a b : Int) (ha : -9223372036854775808 ≤ a ∧ a ≤ 9223372036854775807) (hb : -9223372036854775808 ≤ b ∧ b ≤ 9223372036854775807) :
    ((sluicewayref11_wide.f a).bind fun x => (sluicewayref11_wide.f b).bind fun y => sluicewayref11_plus.f x.1 x.2 y.1 y.2) = some ((a + b) / 4294967296, (a + b) % 4294967296) := by
  unfold sluicewayref11_wide.f sluicewayref11_plus.f
  simp only [Option.bind_some, mask32, w64]
  congr 1
  refine Prod.ext ?_ ?_ <;> simp only <;> omega
theorem below_ref (a b c : Int) (ha : -9223372036854775808 ≤ a ∧ a ≤ 9223372036854775807) (hb : -9223372036854775808 ≤ b ∧ b ≤ 9223372036854775807) :
    sluicewayref11_below.f a b c = some (decide (a + b < c)) := by
  unfold sluicewayref11_below.f
  have hp := plus_ref a b ha hb
  unfold sluicewayref11_wide.f at hp ⊢
  simp only [Option.bind_some] at hp ⊢
  rw [hp]
  unfold sluicewayref11_less.f
  simp only [Option.bind_some, mask32]
  (repeat' split) <;> simp only [Option.bind_some] <;> congr 1
  · symm; apply decide_eq_true; omega
  · apply decide_eq_decide.2; omega
  · symm; apply decide_eq_false; omega
theorem judge_ref (a b c d : Int) (ha : -9223372036854775808 ≤ a ∧ a ≤ 9223372036854775807) (_hb : -9223372036854775808 ≤ b ∧ b ≤ 9223372036854775807) (hc : -9223372036854775808 ≤ c ∧ c ≤ 9223372036854775807) (hd : -9223372036854775808 ≤ d ∧ d ≤ 9223372036854775807) :
    sluicewayref11_Judge.f a b c d = some (judgeOf a b c d) := by
  unfold sluicewayref11_Judge.f judgeOf
  have e : mx d 0 = max d 0 := by rw [mx_def]; split <;> omega
  rw [e, below_ref a _ b ha (by omega)]
  have hp := plus_ref c (max d 0) hc (by omega)
  unfold sluicewayref11_wide.f at hp ⊢
  simp only [Option.bind_some] at hp ⊢
  rw [hp]
  unfold sluicewayref11_less.f
  simp only [Option.bind_some, mask32, decide_eq_true_eq]
  (repeat' split) <;> simp_all only [Option.bind_some, decide_eq_true_eq, if_true, if_false, Bool.false_eq_true] <;> (repeat' split) <;> first | rfl | omega
theorem skewed_ref (a b c : Int) (ha : -9223372036854775808 ≤ a ∧ a ≤ 9223372036854775807) (hb : -9223372036854775808 ≤ b ∧ b ≤ 9223372036854775807) (hc : -9223372036854775808 ≤ c ∧ c ≤ 9223372036854775807) :
    sluicewayref11_Skewed.f a b c = some (decide (b - a > max c 0 ∨ a - b > max c 0)) := by
  unfold sluicewayref11_Skewed.f
  have e : mx c 0 = max c 0 := by rw [mx_def]; split <;> omega
  rw [e, below_ref a _ b ha (by omega), below_ref b _ a hb (by omega)]
  simp only [Option.bind_some, decide_eq_true_eq]
  split <;> congr 1
  · symm; apply decide_eq_true; omega
  · apply decide_eq_decide.2; omega
theorem life_j1 (k : Nat) (a n : Int) (ha : 0 ≤ a ∧ a ≤ 9223372036854775807) (hn : -9223372036854775808 ≤ n ∧ n ≤ 9223372036854775807) :
    sluicewayref11_Life.j1 (k + 1) a n = some (min (n + a) 9223372036854775807) := by
  simp only [sluicewayref11_Life.j1]
  have hp := plus_ref n a hn (by omega)
  unfold sluicewayref11_wide.f at hp ⊢
  simp only [Option.bind_some] at hp ⊢
  rw [hp]
  unfold sluicewayref11_less.f
  simp only [Option.bind_some, mask32, w64]
  (repeat' split) <;> simp_all only [Option.bind_some, decide_eq_true_eq, if_true, if_false, Bool.false_eq_true] <;> (repeat' split) <;> congr 1 <;> omega
theorem life_ref (k : Nat) (a m n : Int) (ha : -9223372036854775808 ≤ a ∧ a ≤ 9223372036854775807) (hm : -9223372036854775808 ≤ m ∧ m ≤ 9223372036854775807) (hn : -9223372036854775808 ≤ n ∧ n ≤ 9223372036854775807) :
    sluicewayref11_Life.f (k + 2) a m n = some (min (n + (if a < 1 ∨ a > max m 0 then max m 0 else a)) 9223372036854775807) := by
  unfold sluicewayref11_Life.f
  have e : mx m 0 = max m 0 := by rw [mx_def]; split <;> omega
  rw [e]
  by_cases h0 : a < 1
  · rw [if_pos h0]
    simp only [sluicewayref11_Life.j0, if_true]
    rw [life_j1 k _ n (by omega) hn, if_pos (Or.inl h0)]
  · rw [if_neg h0]
    by_cases h1 : a > max m 0
    · rw [decide_eq_true h1]
      simp only [sluicewayref11_Life.j0, if_true]
      rw [life_j1 k _ n (by omega) hn, if_pos (Or.inr h1)]
    · rw [decide_eq_false h1]
      simp only [sluicewayref11_Life.j0, Bool.false_eq_true, if_false]
      rw [life_j1 k _ n (by omega) hn, if_neg (fun h => h.elim h0 h1)]
theorem fail_ref (a b : Int) (ha : -9223372036854775808 ≤ a ∧ a ≤ 9223372036854775807) (hb : -9223372036854775808 ≤ b ∧ b ≤ 9223372036854775807) :
    sluicewayref11_Fail.f a b = some (min (max a 0 + 1) (max b 1)) := by
  unfold sluicewayref11_Fail.f
  simp only [mx_def, mn_def, w64]
  congr 1; (repeat' split) <;> omega
theorem locked_ref (a b : Int) : sluicewayref11_Locked.f a b = some (decide (a ≥ max b 1)) := by
  unfold sluicewayref11_Locked.f
  split <;> congr 1
  · apply decide_eq_decide.2; omega
  · symm; apply decide_eq_false; omega

theorem PolicyTells : sluicewaylaw11_PolicyTells.Pure := by
  intro a b c d wa wb wc wd
  have ha := bnd wa; have hb := bnd wb; have hc := bnd wc; have hd := bnd wd
  refine ⟨2, ?_⟩
  unfold sluicewaylaw11_PolicyTells.f
  rw [is_shown, judge a b c d ha hb hc hd, judge_ref a b c d ha hb hc hd, valid a b c d ha hb hc hd, skewed a b c ha hb hc, skewed_ref a b c ha hb hc, life a b c ha hb hc, life_ref 0 a b c ha hb hc, fail a b ha hb, fail_ref a b ha hb, locked, locked_ref]
  simp

end Go.Proofs.Ytohlendphajhhaa.Pure
