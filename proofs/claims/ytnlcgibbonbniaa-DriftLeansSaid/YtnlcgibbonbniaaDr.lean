/- Complex numbers that stand for whole points of the plane: sums, products, quarter turns, comparisons. No condition: plain laws of words, no program in sight. -/
import Derived.Test.YtnlcgibbonbniaaCx
import Derived.Test.YtnlcgibbonbniaaFl
namespace Go.Proofs.Ytnlcgibbonbniaa
open Go.RowKit Ieee Go.Proofs.DriftFloat

theorem wrap64_in (n : Int) (h : -9223372036854775808 ≤ n ∧ n ≤ 9223372036854775807) : wrap64 n = n := by unfold wrap64; omega
/-- 'The complex x stands for the point (a, b)'. -/
def CI (x : Cx) (a b : Int) : Prop := FI x.re a ∧ FI x.im b

theorem fi_zero : FI 0 0 := ⟨false, 0, 1074, by omega, by decide, by rw [signed0, Int.zero_mul]; rfl⟩
theorem fi_nzero : FI 9223372036854775808 0 := ⟨true, 0, 1074, by omega, by decide, by rw [signed0, Int.zero_mul]; rfl⟩
theorem fi_one : FI 4607182418800017408 1 := ⟨false, 4503599627370496, 52, by omega, by decide, by decide⟩
theorem fi_none : FI 13830554455654793216 (-1) := ⟨true, 4503599627370496, 52, by omega, by decide, by decide⟩
theorem fi_two : FI 4611686018427387904 2 := ⟨false, 4503599627370496, 51, by omega, by decide, by decide⟩
theorem ci_zero : CI ⟨0, 0⟩ 0 0 := ⟨fi_zero, fi_zero⟩

def cre (k : Int) : Int := if k % 4 = 0 then 1 else if k % 4 = 2 then -1 else 0
def cim (k : Int) : Int := if k % 4 = 1 then 1 else if k % 4 = 3 then -1 else 0

theorem turn_cases (k : Int) : (k % 4 = 0 ∧ cre k = 1 ∧ cim k = 0 ∧ turn k = ⟨4607182418800017408, 0⟩) ∨ (k % 4 = 1 ∧ cre k = 0 ∧ cim k = 1 ∧ turn k = ⟨0, 4607182418800017408⟩) ∨ (k % 4 = 2 ∧ cre k = -1 ∧ cim k = 0 ∧ turn k = ⟨13830554455654793216, 0⟩) ∨ (k % 4 = 3 ∧ cre k = 0 ∧ cim k = -1 ∧ turn k = ⟨0, 13830554455654793216⟩) := by
  have h : k % 4 = 0 ∨ k % 4 = 1 ∨ k % 4 = 2 ∨ k % 4 = 3 := by omega
  unfold cre cim turn
  rcases h with h | h | h | h <;> rw [h] <;> simp

theorem ci_turn (k : Int) : CI (turn k) (cre k) (cim k) := by
  rcases turn_cases k with ⟨_, h1, h2, h3⟩ | ⟨_, h1, h2, h3⟩ | ⟨_, h1, h2, h3⟩ | ⟨_, h1, h2, h3⟩ <;> rw [h1, h2, h3]
  · exact ⟨fi_one, fi_zero⟩
  · exact ⟨fi_zero, fi_one⟩
  · exact ⟨fi_none, fi_zero⟩
  · exact ⟨fi_zero, fi_none⟩
theorem ci_conj (k : Int) : CI ⟨(turn k).re, Op.negFloat .f64 (turn k).im⟩ (cre k) (-(cim k)) := by
  rcases turn_cases k with ⟨_, h1, h2, h3⟩ | ⟨_, h1, h2, h3⟩ | ⟨_, h1, h2, h3⟩ | ⟨_, h1, h2, h3⟩ <;> rw [h1, h2, h3]
  · exact ⟨fi_one, fi_nzero⟩
  · exact ⟨fi_zero, fi_none⟩
  · exact ⟨fi_none, fi_nzero⟩
  · exact ⟨fi_zero, fi_one⟩

theorem ci_add {x y : Cx} {a b c d : Int} (hx : CI x a b) (hy : CI y c d) (h1 : (a + c).natAbs < 2 ^ 52) (h2 : (b + d).natAbs < 2 ^ 52) : caddOk x y = true ∧ CI (cadd x y) (a + c) (b + d) := by
  obtain ⟨r, e1, f1⟩ := fi_add hx.1 hy.1 h1
  obtain ⟨i, e2, f2⟩ := fi_add hx.2 hy.2 h2
  have e : cSumBits .add .f64 x.re x.im y.re y.im = some (r, i) := by simp [cSumBits, e1, e2]
  refine ⟨by simp [caddOk, e], ?_⟩
  have : cadd x y = ⟨r, i⟩ := by simp [cadd, e]
  rw [this]
  exact ⟨f1, f2⟩
theorem ci_mul {x y : Cx} {a b c d : Int} (hx : CI x a b) (hy : CI y c d) (h1 : (a * c).natAbs < 2 ^ 50) (h2 : (b * d).natAbs < 2 ^ 50) (h3 : (a * d).natAbs < 2 ^ 50) (h4 : (b * c).natAbs < 2 ^ 50) : cmulOk x y = true ∧ CI (cmul x y) (a * c - b * d) (a * d + b * c) := by
  obtain ⟨ac, e1, f1⟩ := fi_mul hx.1 hy.1 (by omega)
  obtain ⟨bd, e2, f2⟩ := fi_mul hx.2 hy.2 (by omega)
  obtain ⟨ad, e3, f3⟩ := fi_mul hx.1 hy.2 (by omega)
  obtain ⟨bc, e4, f4⟩ := fi_mul hx.2 hy.1 (by omega)
  obtain ⟨r, e5, f5⟩ := fi_sub f1 f2 (by omega)
  obtain ⟨i, e6, f6⟩ := fi_add f3 f4 (by omega)
  have e : cMulBits x.re x.im y.re y.im = some (r, i) := by simp [cMulBits, e1, e2, e3, e4, e5, e6]
  refine ⟨by simp [cmulOk, e], ?_⟩
  have : cmul x y = ⟨r, i⟩ := by simp [cmul, e]
  rw [this]
  exact ⟨f5, f6⟩

/-- A point turned by k quarters. -/
theorem ci_turned {x : Cx} {a b : Int} (hx : CI x a b) (ha : a.natAbs < 2 ^ 50) (hb : b.natAbs < 2 ^ 50) (k : Int) : cmulOk x (turn k) = true ∧ CI (cmul x (turn k)) (a * cre k - b * cim k) (a * cim k + b * cre k) := by
  have ht := ci_turn k
  refine ci_mul hx ht ?_ ?_ ?_ ?_ <;>
  (rcases turn_cases k with ⟨_, h1, h2, _⟩ | ⟨_, h1, h2, _⟩ | ⟨_, h1, h2, _⟩ | ⟨_, h1, h2, _⟩ <;> (first | rw [h1] | rw [h2]) <;> omega)
theorem ci_along {x : Cx} {a b : Int} (hx : CI x a b) (ha : a.natAbs < 2 ^ 50) (hb : b.natAbs < 2 ^ 50) (k : Int) : cmulOk x (⟨(turn k).re, Op.negFloat .f64 (turn k).im⟩ : Cx) = true ∧ FI (cmul x (⟨(turn k).re, Op.negFloat .f64 (turn k).im⟩ : Cx)).re (a * cre k + b * cim k) := by
  have ht := ci_conj k
  have := ci_mul hx ht ?_ ?_ ?_ ?_
  · refine ⟨this.1, ?_⟩
    have h := this.2.1
    have e : a * cre k - b * -cim k = a * cre k + b * cim k := by rw [Int.mul_neg]; omega
    rw [e] at h
    exact h
  all_goals (rcases turn_cases k with ⟨_, h1, h2, _⟩ | ⟨_, h1, h2, _⟩ | ⟨_, h1, h2, _⟩ | ⟨_, h1, h2, _⟩ <;> (first | rw [h1] | rw [h2]) <;> omega)

theorem ford {x y : Nat} {a b : Int} (hx : FI x a) (hy : FI y b) : FloatKind.f64.format.order x y = some (compare a b) := fi_order hx hy
theorem feq {x y : Nat} {a b : Int} (hx : FI x a) (hy : FI y b) : (FloatKind.f64.format.order x y == some .eq) = decide (a = b) := by
  rw [ford hx hy]
  by_cases h : a = b
  · subst h; simp [compare, compareOfLessAndEq]
  · simp only [compare, compareOfLessAndEq, h]
    by_cases h2 : a < b <;> simp [h2]
theorem fgt {x y : Nat} {a b : Int} (hx : FI x a) (hy : FI y b) : (FloatKind.f64.format.order x y == some .gt) = decide (a > b) := by
  rw [ford hx hy]
  by_cases h : a = b
  · subst h; simp [compare, compareOfLessAndEq]
  · simp only [compare, compareOfLessAndEq, h]
    by_cases h2 : a < b
    · simp [h2]; omega
    · simp [h2]; omega
theorem ceq {x y : Cx} {a b c d : Int} (hx : CI x a b) (hy : CI y c d) : (FloatKind.f64.format.order x.re y.re == some .eq && FloatKind.f64.format.order x.im y.im == some .eq) = decide (a = c ∧ b = d) := by
  rw [feq hx.1 hy.1, feq hx.2 hy.2]
  simp
theorem f2i_fi {x : Nat} {n : Int} (hx : FI x n) (hn : n.natAbs < 2 ^ 52) : f2iOk x = true ∧ f2i x = n := by
  have e : floatToIntVal .f64 x .i64 = some n := by
    unfold floatToIntVal
    have := fi_toInt hx
    have e2 : (FloatKind.f64.decode x).toInt .zero = some n := this
    rw [e2]
    have h1 : IntKind.i64.min = -9223372036854775808 := by decide
    have h2 : IntKind.i64.max = 9223372036854775807 := by decide
    simp only [h1, h2]
    rw [if_pos (by omega)]
  exact ⟨by simp [f2iOk, e], by simp [f2i, e]⟩

theorem cre_add (a b : Int) : cre (a + b) = cre a * cre b - cim a * cim b := by
  rcases turn_cases a with ⟨h, h1, h2, _⟩ | ⟨h, h1, h2, _⟩ | ⟨h, h1, h2, _⟩ | ⟨h, h1, h2, _⟩ <;>
  rcases turn_cases b with ⟨g, g1, g2, _⟩ | ⟨g, g1, g2, _⟩ | ⟨g, g1, g2, _⟩ | ⟨g, g1, g2, _⟩ <;>
  rcases turn_cases (a + b) with ⟨f, f1, f2, _⟩ | ⟨f, f1, f2, _⟩ | ⟨f, f1, f2, _⟩ | ⟨f, f1, f2, _⟩ <;>
  first | (exfalso; omega) | (rw [h1, h2, g1, g2, f1]; decide)
theorem cim_add (a b : Int) : cim (a + b) = cre a * cim b + cim a * cre b := by
  rcases turn_cases a with ⟨h, h1, h2, _⟩ | ⟨h, h1, h2, _⟩ | ⟨h, h1, h2, _⟩ | ⟨h, h1, h2, _⟩ <;>
  rcases turn_cases b with ⟨g, g1, g2, _⟩ | ⟨g, g1, g2, _⟩ | ⟨g, g1, g2, _⟩ | ⟨g, g1, g2, _⟩ <;>
  rcases turn_cases (a + b) with ⟨f, f1, f2, _⟩ | ⟨f, f1, f2, _⟩ | ⟨f, f1, f2, _⟩ | ⟨f, f1, f2, _⟩ <;>
  first | (exfalso; omega) | (rw [h1, h2, g1, g2, f2]; decide)
theorem cre_neg (a : Int) : cre (-a) = cre a := by
  rcases turn_cases a with ⟨h, h1, h2, _⟩ | ⟨h, h1, h2, _⟩ | ⟨h, h1, h2, _⟩ | ⟨h, h1, h2, _⟩ <;>
  rcases turn_cases (-a) with ⟨f, f1, f2, _⟩ | ⟨f, f1, f2, _⟩ | ⟨f, f1, f2, _⟩ | ⟨f, f1, f2, _⟩ <;>
  first | (exfalso; omega) | rw [h1, f1]
theorem cim_neg (a : Int) : cim (-a) = -cim a := by
  rcases turn_cases a with ⟨h, h1, h2, _⟩ | ⟨h, h1, h2, _⟩ | ⟨h, h1, h2, _⟩ | ⟨h, h1, h2, _⟩ <;>
  rcases turn_cases (-a) with ⟨f, f1, f2, _⟩ | ⟨f, f1, f2, _⟩ | ⟨f, f1, f2, _⟩ | ⟨f, f1, f2, _⟩ <;>
  first | (exfalso; omega) | (rw [h2, f2]; done) | (rw [h2, f2]; decide)
theorem cre_four (a : Int) : cre (4 * a) = 1 := by unfold cre; rw [if_pos (by omega)]
theorem cim_four (a : Int) : cim (4 * a) = 0 := by unfold cim; rw [if_neg (by omega), if_neg (by omega)]
theorem rot_le {a b M : Int} (ha : -M ≤ a ∧ a ≤ M) (hb : -M ≤ b ∧ b ≤ M) (k : Int) : (-M ≤ a * cre k - b * cim k ∧ a * cre k - b * cim k ≤ M) ∧ (-M ≤ a * cim k + b * cre k ∧ a * cim k + b * cre k ≤ M) := by
  rcases turn_cases k with ⟨_, h1, h2, _⟩ | ⟨_, h1, h2, _⟩ | ⟨_, h1, h2, _⟩ | ⟨_, h1, h2, _⟩ <;> rw [h1, h2] <;> omega

/-- The sum of offsets' turns. -/
def sre (l : List Int) : Int := (l.map cre).sum
def sim (l : List Int) : Int := (l.map cim).sum
theorem cre_le (k : Int) : -1 ≤ cre k ∧ cre k ≤ 1 := by
  rcases turn_cases k with ⟨_, h1, _⟩ | ⟨_, h1, _⟩ | ⟨_, h1, _⟩ | ⟨_, h1, _⟩ <;> omega
theorem cim_le (k : Int) : -1 ≤ cim k ∧ cim k ≤ 1 := by
  rcases turn_cases k with ⟨_, _, h1, _⟩ | ⟨_, _, h1, _⟩ | ⟨_, _, h1, _⟩ | ⟨_, _, h1, _⟩ <;> omega
theorem cre_cim (k : Int) : -1 ≤ cre k + cim k ∧ cre k + cim k ≤ 1 ∧ -1 ≤ cre k - cim k ∧ cre k - cim k ≤ 1 := by
  rcases turn_cases k with ⟨_, h0, h1, _⟩ | ⟨_, h0, h1, _⟩ | ⟨_, h0, h1, _⟩ | ⟨_, h0, h1, _⟩ <;> omega
theorem sre_le (l : List Int) : -(l.length : Int) ≤ sre l ∧ sre l ≤ l.length ∧ -(l.length : Int) ≤ sim l ∧ sim l ≤ l.length := by
  induction l with
  | nil => decide
  | cons x l ih =>
    have h1 := cre_le x; have h2 := cim_le x
    simp only [sre, sim, List.map_cons, List.sum_cons, List.length_cons] at *
    omega
theorem sre_snoc (l : List Int) (x : Int) : sre (l ++ [x]) = sre l + cre x := by simp [sre]
theorem sim_snoc (l : List Int) (x : Int) : sim (l ++ [x]) = sim l + cim x := by simp [sim]
theorem sre_append (l m : List Int) : sre (l ++ m) = sre l + sre m := by simp [sre]
theorem sim_append (l m : List Int) : sim (l ++ m) = sim l + sim m := by simp [sim]

/-- The direction in which a point lies farthest, and how far. -/
def al (a b k : Int) : Int := a * cre k + b * cim k
theorem al0 (a b : Int) : al a b 0 = a := by simp [al, cre, cim]
theorem al1 (a b : Int) : al a b 1 = b := by simp [al, cre, cim]
theorem al2 (a b : Int) : al a b 2 = -a := by simp [al, cre, cim]
theorem al3 (a b : Int) : al a b 3 = -b := by simp [al, cre, cim]
def up (s : Int × Int) (k x : Int) : Int × Int := if x > s.2 then (k, x) else s
def bst (a b : Int) : Int × Int := up (up (up (0, a) 1 b) 2 (-a)) 3 (-b)
theorem bst_spec (a b : Int) : (0 ≤ (bst a b).1 ∧ (bst a b).1 < 4) ∧ (bst a b).2 = al a b (bst a b).1 ∧ a ≤ (bst a b).2 ∧ b ≤ (bst a b).2 ∧ -a ≤ (bst a b).2 ∧ -b ≤ (bst a b).2 := by
  unfold bst up
  repeat' split
  all_goals simp only [al0, al1, al2, al3]
  all_goals simp at *
  all_goals omega
end Go.Proofs.Ytnlcgibbonbniaa
