import Derived.Laws.ComplexArith
namespace Go.Proofs.DriftFloat
open Ieee

/-- 'the word x stands for the whole number n' (either zero for 0). -/
def FI (x : Nat) (n : Int) : Prop := ∃ s m, ∃ k : Nat, k ≤ 1074 ∧ double.read x = .number s m (-(k : Int)) ∧ signed s m 0 = n * 2 ^ k

theorem signed_eq (s : Bool) (m up : Nat) : signed s m up = signed s m 0 * 2 ^ up := by
  unfold signed
  have h1 : ∀ a b : Nat, ((a <<< b : Nat) : Int) = (a : Int) * 2 ^ b := by
    intro a b; rw [Nat.shiftLeft_eq]; push_cast; rfl
  cases s
  · simp [h1]
  · simp [h1, Int.neg_mul]

theorem signed0 (s : Bool) (m : Nat) : signed s m 0 = if s then -(m : Int) else (m : Int) := by
  unfold signed; cases s <;> simp

theorem log2_mul_pow (A K : Nat) (h : 0 < A) : (A * 2 ^ K).log2 = A.log2 + K := by
  have hA : A ≠ 0 := by omega
  have hne : A * 2 ^ K ≠ 0 := Nat.mul_ne_zero hA (Nat.ne_of_gt (Nat.two_pow_pos K))
  refine (Nat.log2_eq_iff hne).2 ⟨?_, ?_⟩
  · have := Nat.log2_self_le hA
    rw [Nat.pow_add]; exact Nat.mul_le_mul_right _ this
  · have := @Nat.lt_log2_self A
    have h2 : A < 2 ^ (A.log2 + 1) := this
    calc A * 2 ^ K < 2 ^ (A.log2 + 1) * 2 ^ K := Nat.mul_lt_mul_of_pos_right h2 (Nat.two_pow_pos K)
      _ = 2 ^ (A.log2 + K + 1) := by rw [← Nat.pow_add]; congr 1; omega

theorem cut_exact (way : Toward) (neg : Bool) (a d : Nat) (ha : 0 < a) : way.cut neg (a * 2 ^ d) d = a := by
  unfold Toward.cut
  have hl : d ≤ (a * 2 ^ d).log2 + 2 := by rw [log2_mul_pow a d ha]; omega
  have hg : (1 <<< min d ((a * 2 ^ d).log2 + 2)) = 2 ^ d := by rw [Nat.min_eq_left hl, Nat.shiftLeft_eq, Nat.one_mul]
  simp only [hg]
  have hp := Nat.two_pow_pos d
  rw [Nat.mul_div_cancel _ hp, Nat.mul_mod_left]
  cases way <;> simp

/-- A whole number below 2^52, at whatever place it is written: its word. -/
theorem nearest_whole (s : Bool) (A K : Nat) (h0 : 0 < A) (h1 : A < 2 ^ 52) :
    double.nearest s (A * 2 ^ K) (-(K : Int)) = double.word s ((A.log2 + 1022) * 2 ^ 52 + A * 2 ^ (52 - A.log2)) := by
  have hA : A ≠ 0 := by omega
  have hL : A.log2 < 52 := (Nat.log2_lt hA).2 h1
  have hne : A * 2 ^ K ≠ 0 := Nat.mul_ne_zero hA (Nat.ne_of_gt (Nat.two_pow_pos K))
  unfold Format.nearest
  rw [if_neg hne]
  dsimp only
  have hlp : double.leastPlace = -1074 := by decide
  have hfb : double.fractionBits = 52 := rfl
  rw [log2_mul_pow A K h0, hlp, hfb]
  have hlast : max (-(K : Int) + ((A.log2 + K : Nat) : Int) - ((52 : Nat) : Int)) (-1074) = (A.log2 : Int) - 52 := by omega
  rw [hlast]
  have hb : double.binade = 2 ^ 52 := rfl
  have hi : double.infRung = 2047 * 2 ^ 52 := rfl
  have kept : Toward.even.cut s ((A * 2 ^ K) <<< (-(K : Int) - ((A.log2 : Int) - 52)).toNat) ((A.log2 : Int) - 52 - (-(K : Int))).toNat = A * 2 ^ (52 - A.log2) := by
    rw [Nat.shiftLeft_eq]
    by_cases hk : K ≤ 52 - A.log2
    · have e1 : (-(K : Int) - ((A.log2 : Int) - 52)).toNat = 52 - A.log2 - K := by omega
      have e2 : ((A.log2 : Int) - 52 - (-(K : Int))).toNat = 0 := by omega
      rw [e1, e2]
      have := cut_exact .even s (A * 2 ^ K * 2 ^ (52 - A.log2 - K)) 0 (Nat.mul_pos (Nat.mul_pos h0 (Nat.two_pow_pos _)) (Nat.two_pow_pos _))
      rw [Nat.pow_zero, Nat.mul_one] at this
      rw [this, Nat.mul_assoc, ← Nat.pow_add]
      congr 2; omega
    · have e1 : (-(K : Int) - ((A.log2 : Int) - 52)).toNat = 0 := by omega
      have e2 : ((A.log2 : Int) - 52 - (-(K : Int))).toNat = K - (52 - A.log2) := by omega
      rw [e1, e2, Nat.pow_zero, Nat.mul_one]
      have e3 : A * 2 ^ K = A * 2 ^ (52 - A.log2) * 2 ^ (K - (52 - A.log2)) := by
        rw [Nat.mul_assoc, ← Nat.pow_add]; congr 2; omega
      rw [e3]
      exact cut_exact .even s _ _ (Nat.mul_pos h0 (Nat.two_pow_pos _))
  rw [kept, hb, hi]
  have e4 : ((A.log2 : Int) - 52 - -1074).toNat = A.log2 + 1022 := by omega
  rw [e4]
  have h2 : A < 2 ^ (A.log2 + 1) := Nat.lt_log2_self
  have h3 : A * 2 ^ (52 - A.log2) < 2 ^ 53 := by
    calc A * 2 ^ (52 - A.log2) < 2 ^ (A.log2 + 1) * 2 ^ (52 - A.log2) := Nat.mul_lt_mul_of_pos_right h2 (Nat.two_pow_pos _)
      _ = 2 ^ 53 := by rw [← Nat.pow_add]; congr 1; omega
  rw [Nat.min_eq_left (by omega)]

theorem read_whole (s : Bool) (A : Nat) (h0 : 0 < A) (h1 : A < 2 ^ 52) :
    double.read (double.word s ((A.log2 + 1022) * 2 ^ 52 + A * 2 ^ (52 - A.log2))) = .number s (A * 2 ^ (52 - A.log2)) (-((52 - A.log2 : Nat) : Int)) := by
  have hA : A ≠ 0 := by omega
  have hL : A.log2 < 52 := (Nat.log2_lt hA).2 h1
  have h2 : A < 2 ^ (A.log2 + 1) := Nat.lt_log2_self
  have h2' : 2 ^ A.log2 ≤ A := Nat.log2_self_le hA
  have h3 : A * 2 ^ (52 - A.log2) < 2 ^ 53 := by
    calc A * 2 ^ (52 - A.log2) < 2 ^ (A.log2 + 1) * 2 ^ (52 - A.log2) := Nat.mul_lt_mul_of_pos_right h2 (Nat.two_pow_pos _)
      _ = 2 ^ 53 := by rw [← Nat.pow_add]; congr 1; omega
  have h4 : 2 ^ 52 ≤ A * 2 ^ (52 - A.log2) := by
    calc 2 ^ 52 = 2 ^ A.log2 * 2 ^ (52 - A.log2) := by rw [← Nat.pow_add]; congr 1; omega
      _ ≤ _ := Nat.mul_le_mul_right _ h2'
  generalize hM : A * 2 ^ (52 - A.log2) = M at *
  generalize A.log2 = L at *
  unfold Format.read
  have hsw : double.signWeight = 2 ^ 63 := rfl
  have hb : double.binade = 2 ^ 52 := rfl
  have hi : double.infRung = 2047 * 2 ^ 52 := rfl
  have hlp : double.leastPlace = -1074 := by decide
  rw [hsw, hb, hi, hlp]
  have hr : (L + 1022) * 2 ^ 52 + M < 2 ^ 63 := by omega
  have hw : double.word s ((L + 1022) * 2 ^ 52 + M) / 2 ^ 63 % 2 = s.toNat ∧ double.word s ((L + 1022) * 2 ^ 52 + M) % 2 ^ 63 = (L + 1022) * 2 ^ 52 + M := by
    unfold Format.word
    rw [hsw]
    cases s
    · simp only [Bool.false_eq_true, if_false, Bool.toNat_false]; omega
    · simp only [if_true, Bool.toNat_true]; omega
  rw [hw.1, hw.2]
  dsimp only
  rw [if_neg (by omega), if_pos (by omega)]
  have e1 : ((L + 1022) * 2 ^ 52 + M) % 2 ^ 52 = M - 2 ^ 52 := by omega
  have e2 : ((L + 1022) * 2 ^ 52 + M) / 2 ^ 52 = L + 1023 := by omega
  rw [e1, e2]
  have e3 : 2 ^ 52 + (M - 2 ^ 52) = M := by omega
  have e4 : ((-1074 : Int) + ((L + 1023 - 1 : Nat) : Int)) = -((52 - L : Nat) : Int) := by omega
  rw [e3, e4]
  cases s <;> rfl

theorem read_zero (s : Bool) : double.read (double.word s 0) = .number s 0 (-((1074 : Nat) : Int)) := by
  cases s <;> decide

/-- What is written of a whole number at a place stands for it. -/
theorem fi_nearest (s : Bool) (mag K : Nat) (n : Int) (h : signed s mag 0 = n * 2 ^ K) (hn : n.natAbs < 2 ^ 52) : FI (double.nearest s mag (-(K : Int))) n := by
  by_cases hz : n = 0
  · subst hz
    have hm : mag = 0 := by
      rw [signed0] at h
      cases s <;> simp at h <;> exact h
    subst hm
    refine ⟨s, 0, 1074, by omega, ?_, ?_⟩
    · unfold Format.nearest; rw [if_pos rfl]; exact read_zero s
    · rw [signed0, Int.zero_mul]; cases s <;> rfl
  · have hm : mag = n.natAbs * 2 ^ K := by
      rw [signed0] at h
      have h2 : (mag : Int).natAbs = (n * 2 ^ K).natAbs := by
        rw [← h]; cases s <;> simp
      rw [Int.natAbs_mul] at h2
      simpa [Int.natAbs_pow] using h2
    have hs : s = decide (n < 0) := by
      rw [signed0] at h
      have hp : (0 : Int) < 2 ^ K := Int.pow_pos (by omega)
      have hmp : 0 < mag := by rw [hm]; exact Nat.mul_pos (by omega) (Nat.two_pow_pos _)
      cases s
      · simp only [Bool.false_eq_true, if_false] at h
        have : 0 ≤ n := by
          by_cases hc : 0 ≤ n
          · exact hc
          · have : n * 2 ^ K < 0 := Int.mul_neg_of_neg_of_pos (by omega) hp
            omega
        simp; omega
      · simp only [if_true] at h
        have : n < 0 := by
          by_cases hc : n < 0
          · exact hc
          · have : 0 ≤ n * 2 ^ K := Int.mul_nonneg (by omega) (by omega)
            omega
        simp [this]
    have h0 : 0 < n.natAbs := by omega
    rw [hm, nearest_whole s n.natAbs K h0 hn]
    have hL : n.natAbs.log2 < 52 := (Nat.log2_lt (by omega)).2 hn
    refine ⟨s, _, 52 - n.natAbs.log2, by omega, read_whole s _ h0 hn, ?_⟩
    rw [signed0, hs]
    by_cases hc : n < 0
    · simp only [hc, decide_true, if_true]
      push_cast
      rw [← Int.neg_mul]; congr 1; omega
    · simp only [hc, decide_false, Bool.false_eq_true, if_false]
      push_cast
      congr 1; omega

theorem fi_add {x y : Nat} {a b : Int} (hx : FI x a) (hy : FI y b) (hn : (a + b).natAbs < 2 ^ 52) : ∃ r, floatBits .add .f64 x y = some r ∧ FI r (a + b) := by
  obtain ⟨s, m, i, hi, hr, hv⟩ := hx
  obtain ⟨t, p, j, hj, hr2, hv2⟩ := hy
  have hbase : min (-(i : Int)) (-(j : Int)) = -((max i j : Nat) : Int) := by omega
  have hf : FloatKind.f64.format = double := rfl
  refine ⟨_, by unfold floatBits; simp only [hf]; unfold Format.add; rw [hr, hr2]; unfold Datum.sum; dsimp only; rw [Option.map_some], ?_⟩
  unfold Format.write
  dsimp only
  rw [hbase]
  refine fi_nearest _ _ _ _ ?_ hn
  have e1 : (-(i : Int) - -((max i j : Nat) : Int)).toNat = max i j - i := by omega
  have e2 : (-(j : Int) - -((max i j : Nat) : Int)).toNat = max i j - j := by omega
  rw [e1, e2, signed_eq s m, signed_eq t p, hv, hv2, Int.mul_assoc, Int.mul_assoc, ← Int.pow_add, ← Int.pow_add]
  have e3 : i + (max i j - i) = max i j := by omega
  have e4 : j + (max i j - j) = max i j := by omega
  rw [e3, e4, ← Int.add_mul]
  generalize (a + b) * 2 ^ max i j = T
  rw [signed0]
  by_cases hT : T = 0
  · subst hT; simp
  · rw [if_neg hT]
    by_cases hc : T < 0
    · simp only [hc, decide_true, if_true]; omega
    · simp only [hc, decide_false, Bool.false_eq_true, if_false]; omega

theorem fi_sub {x y : Nat} {a b : Int} (hx : FI x a) (hy : FI y b) (hn : (a - b).natAbs < 2 ^ 52) : ∃ r, floatBits .sub .f64 x y = some r ∧ FI r (a - b) := by
  obtain ⟨s, m, i, hi, hr, hv⟩ := hx
  obtain ⟨t, p, j, hj, hr2, hv2⟩ := hy
  have hbase : min (-(i : Int)) (-(j : Int)) = -((max i j : Nat) : Int) := by omega
  have hf : FloatKind.f64.format = double := rfl
  refine ⟨_, by unfold floatBits; simp only [hf]; unfold Format.sub; rw [hr, hr2]; unfold Datum.opposite Datum.sum; dsimp only; rw [Option.map_some], ?_⟩
  unfold Format.write
  dsimp only
  rw [hbase]
  refine fi_nearest _ _ _ _ ?_ hn
  have e1 : (-(i : Int) - -((max i j : Nat) : Int)).toNat = max i j - i := by omega
  have e2 : (-(j : Int) - -((max i j : Nat) : Int)).toNat = max i j - j := by omega
  have hop : signed (!t) p 0 = -(b * 2 ^ j) := by
    rw [← hv2, signed0, signed0]; cases t <;> simp
  rw [e1, e2, signed_eq s m, signed_eq (!t) p, hv, hop, Int.neg_mul, Int.mul_assoc, Int.mul_assoc, ← Int.pow_add, ← Int.pow_add]
  have e3 : i + (max i j - i) = max i j := by omega
  have e4 : j + (max i j - j) = max i j := by omega
  rw [e3, e4, ← Int.sub_eq_add_neg, ← Int.sub_mul]
  generalize (a - b) * 2 ^ max i j = T
  rw [signed0]
  by_cases hT : T = 0
  · subst hT; simp
  · rw [if_neg hT]
    by_cases hc : T < 0
    · simp only [hc, decide_true, if_true]; omega
    · simp only [hc, decide_false, Bool.false_eq_true, if_false]; omega

theorem fi_mul {x y : Nat} {a b : Int} (hx : FI x a) (hy : FI y b) (hn : (a * b).natAbs < 2 ^ 52) : ∃ r, floatBits .mul .f64 x y = some r ∧ FI r (a * b) := by
  obtain ⟨s, m, i, hi, hr, hv⟩ := hx
  obtain ⟨t, p, j, hj, hr2, hv2⟩ := hy
  have hf : FloatKind.f64.format = double := rfl
  refine ⟨_, by unfold floatBits; simp only [hf]; unfold Format.mul; rw [hr, hr2]; unfold Datum.product; dsimp only; rw [Option.map_some], ?_⟩
  unfold Format.write
  dsimp only
  have e : -(i : Int) + -(j : Int) = -((i + j : Nat) : Int) := by omega
  rw [e]
  refine fi_nearest _ _ _ _ ?_ hn
  have : signed (s ^^ t) (m * p) 0 = signed s m 0 * signed t p 0 := by
    rw [signed0, signed0, signed0]
    cases s <;> cases t <;> simp [Int.neg_mul, Int.mul_neg]
  rw [this, hv, hv2, Int.pow_add]
  ac_rfl

theorem fi_order {x y : Nat} {a b : Int} (hx : FI x a) (hy : FI y b) : double.order x y = some (compare a b) := by
  obtain ⟨s, m, i, hi, hr, hv⟩ := hx
  obtain ⟨t, p, j, hj, hr2, hv2⟩ := hy
  have hbase : min (-(i : Int)) (-(j : Int)) = -((max i j : Nat) : Int) := by omega
  unfold Format.order
  rw [hr, hr2]
  unfold Datum.order
  dsimp only
  rw [hbase]
  have e1 : (-(i : Int) - -((max i j : Nat) : Int)).toNat = max i j - i := by omega
  have e2 : (-(j : Int) - -((max i j : Nat) : Int)).toNat = max i j - j := by omega
  rw [e1, e2, signed_eq s m, signed_eq t p, hv, hv2, Int.mul_assoc, Int.mul_assoc, ← Int.pow_add, ← Int.pow_add]
  have e3 : i + (max i j - i) = max i j := by omega
  have e4 : j + (max i j - j) = max i j := by omega
  rw [e3, e4]
  have hp : (0 : Int) < 2 ^ max i j := Int.pow_pos (by omega)
  congr 1
  simp only [compare, compareOfLessAndEq]
  by_cases h1 : a < b
  · rw [if_pos h1, if_pos (Int.mul_lt_mul_of_pos_right h1 hp)]
  · rw [if_neg h1, if_neg (by intro h; exact h1 (Int.lt_of_mul_lt_mul_right h (by omega)))]
    by_cases h2 : a = b
    · subst h2; simp
    · rw [if_neg h2, if_neg (by intro h; exact h2 (Int.eq_of_mul_eq_mul_right (by omega) h))]

theorem fi_toInt {x : Nat} {a : Int} (hx : FI x a) : (double.read x).toInt .zero = some a := by
  obtain ⟨s, m, i, hi, hr, hv⟩ := hx
  rw [hr]
  unfold Datum.toInt Datum.integral
  dsimp only
  have e1 : (-(i : Int)).toNat = 0 := by omega
  have e2 : (- -(i : Int)).toNat = i := by omega
  rw [e1, e2, Nat.shiftLeft_zero]
  by_cases hm : m = 0
  · subst hm
    have ha : a = 0 := by
      have : signed s 0 0 = 0 := by rw [signed0]; cases s <;> simp
      rw [this] at hv
      have hp : (2 : Int) ^ i ≠ 0 := by have : (0 : Int) < 2 ^ i := Int.pow_pos (by omega); omega
      rcases Int.mul_eq_zero.1 hv.symm with h | h
      · exact h
      · exact absurd h hp
    subst ha
    have : Toward.zero.cut s 0 i = 0 := by unfold Toward.cut; simp
    rw [this, signed0]; cases s <;> simp
  · have hma : m = a.natAbs * 2 ^ i := by
      rw [signed0] at hv
      have h2 : (m : Int).natAbs = (a * 2 ^ i).natAbs := by
        rw [← hv]; cases s <;> simp
      rw [Int.natAbs_mul] at h2
      simpa [Int.natAbs_pow] using h2
    have ha : 0 < a.natAbs := by
      rcases Nat.eq_zero_or_pos a.natAbs with h | h
      · rw [h] at hma; simp at hma; exact absurd hma hm
      · exact h
    rw [hma, cut_exact .zero s _ _ ha]
    rw [signed0] at hv ⊢
    rw [hma] at hv
    push_cast at hv
    have hp : (2 : Int) ^ i ≠ 0 := by have : (0 : Int) < 2 ^ i := Int.pow_pos (by omega); omega
    cases s
    · simp only [Bool.false_eq_true, if_false] at hv ⊢
      rw [Int.eq_of_mul_eq_mul_right hp hv]
    · simp only [if_true] at hv ⊢
      rw [← Int.neg_mul] at hv
      rw [Int.eq_of_mul_eq_mul_right hp hv]

theorem fi_ofInt (n : Int) (h : n.natAbs < 2 ^ 52) : FI (floatOfInt .f64 n) n := by
  have e : floatOfInt .f64 n = double.nearest (decide (n < 0)) n.natAbs (-((0 : Nat) : Int)) := rfl
  rw [e]
  refine fi_nearest _ _ _ _ ?_ h
  rw [signed0]
  by_cases hc : n < 0
  · simp only [hc, decide_true, if_true]; omega
  · simp only [hc, decide_false, Bool.false_eq_true, if_false]; omega
end Go.Proofs.DriftFloat
