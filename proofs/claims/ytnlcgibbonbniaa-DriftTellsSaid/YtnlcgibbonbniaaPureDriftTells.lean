import Derived.Test.YtnlcgibbonbniaaDr
import Derived.Test.YtnlcgibbonbniaaGDriftTellsx3
namespace Go.Proofs.Ytnlcgibbonbniaa.Pure
open Go.RowKit Go.Proofs.Ytnlcgibbonbniaa Go.Proofs.Ytnlcgibbonbniaa.GDriftTells Go.Proofs.YtnlcgibbonbniaaW.PrintWords Go.Proofs.YtnlcgibbonbniaaW.PrintLast Go.Proofs.DriftFloat
set_option linter.unusedVariables false

theorem along_f {s : Cx} {a b : Int} (hs : CI s a b) (ha : a.natAbs < 2 ^ 50) (hb : b.natAbs < 2 ^ 50) (n k : Int) : ∃ f, drift_Drift_along.f s n k = some f ∧ FI f (al a b k) := by
  obtain ⟨h1, h2⟩ := ci_along hs ha hb k
  refine ⟨_, ?_, h2⟩
  simp only [drift_Drift_along.f, drift_Turn.f, Option.bind_some]
  rw [if_pos h1]
theorem best_step {s : Cx} {a b : Int} (hs : CI s a b) (ha : a.natAbs < 2 ^ 50) (hb : b.natAbs < 2 ^ 50) (n : Int) (k : Nat) (p : Int × Int) (f : Nat) (hf : FI f p.2) (i : Int) (h0 : 0 ≤ i) (hi : i < 4) :
    ∃ f', drift_Drift_best.l0 (k + 1) p.1 f i s n = drift_Drift_best.l0 k (up p i (al a b i)).1 f' (i + 1) s n ∧ FI f' (up p i (al a b i)).2 := by
  obtain ⟨g, e, hg⟩ := along_f hs ha hb n i
  rw [drift_Drift_best.l0, if_pos hi, e]
  simp only [Option.bind_some]
  rw [fgt hg hf, wrap64_in (i + 1) (by omega)]
  by_cases hc : al a b i > p.2
  · exact ⟨g, by simp [up, hc], by simpa [up, hc] using hg⟩
  · exact ⟨f, by simp [up, hc], by simpa [up, hc] using hf⟩
theorem best_f {s : Cx} {a b : Int} (hs : CI s a b) (ha : a.natAbs < 2 ^ 50) (hb : b.natAbs < 2 ^ 50) (n : Int) (k : Nat) : ∃ f, drift_Drift_best.f (k + 4) s n = some ((bst a b).1, f) ∧ FI f (bst a b).2 := by
  obtain ⟨f0, e0, h0⟩ := along_f hs ha hb n 0
  rw [al0] at h0
  obtain ⟨f1, e1, h1⟩ := best_step hs ha hb n (k + 3) (0, a) f0 h0 1 (by decide) (by decide)
  obtain ⟨f2, e2, h2⟩ := best_step hs ha hb n (k + 2) _ f1 h1 2 (by decide) (by decide)
  obtain ⟨f3, e3, h3⟩ := best_step hs ha hb n (k + 1) _ f2 h2 3 (by decide) (by decide)
  rw [al1] at e1; rw [al1, al2] at e2; rw [al1, al2, al3] at e3 h3
  refine ⟨f3, ?_, h3⟩
  unfold drift_Drift_best.f
  rw [e0]
  simp only [Option.bind_some]
  refine e1.trans (e2.trans (e3.trans ?_))
  rw [drift_Drift_best.l0, if_neg (by decide)]
  rfl
theorem Lean_f {s : Cx} {a b : Int} (hs : CI s a b) (ha : a.natAbs < 2 ^ 50) (hb : b.natAbs < 2 ^ 50) (n : Int) (k : Nat) : drift_Drift_Lean.f (k + 4) s n = some (if a = 0 ∧ b = 0 then (0, false) else ((bst a b).1, true)) := by
  obtain ⟨f, e, h⟩ := best_f hs ha hb n k
  unfold drift_Drift_Lean.f
  rw [e]
  simp only [Option.bind_some]
  have := ceq hs ci_zero
  rw [this]
  by_cases hc : a = 0 ∧ b = 0
  · simp [hc]
  · simp [hc]
theorem Spread_f {s : Cx} {a b : Int} (hs : CI s a b) (ha : a.natAbs < 2 ^ 50) (hb : b.natAbs < 2 ^ 50) (n : Int) (hn : n.natAbs < 2 ^ 50) (k : Nat) : drift_Drift_Spread.f (k + 4) s n = some (n - (bst a b).2) := by
  obtain ⟨f, e, h⟩ := best_f hs ha hb n k
  have hle : (bst a b).2.natAbs < 2 ^ 50 := by
    obtain ⟨⟨h1, h2⟩, h3, _⟩ := bst_spec a b
    have h4 : (bst a b).1 = 0 ∨ (bst a b).1 = 1 ∨ (bst a b).1 = 2 ∨ (bst a b).1 = 3 := by omega
    rcases h4 with h4 | h4 | h4 | h4 <;> rw [h4] at h3 <;> simp only [al0, al1, al2, al3] at h3 <;> omega
  obtain ⟨h1, h2⟩ := f2i_fi h (by omega)
  unfold drift_Drift_Spread.f
  rw [e]
  simp only [Option.bind_some]
  rw [if_pos h1, h2, wrap64_in _ (by omega)]
theorem Add_f {s : Cx} {a b : Int} (hs : CI s a b) (ha : a.natAbs < 2 ^ 50) (hb : b.natAbs < 2 ^ 50) (n : Int) (hn : n.natAbs < 2 ^ 50) (k : Int) : ∃ s', drift_Drift_Add.f s n k = some (s', n + 1) ∧ CI s' (a + cre k) (b + cim k) := by
  have h1 := cre_le k; have h2 := cim_le k
  obtain ⟨h3, h4⟩ := ci_add hs (ci_turn k) (by omega) (by omega)
  refine ⟨_, ?_, h4⟩
  simp only [drift_Drift_Add.f, drift_Turn.f, Option.bind_some]
  rw [if_pos h3, wrap64_in _ (by omega)]
theorem shown_f (k : Nat) : sluicewaylaw06_shown.f (k + 4) = some true := by
  obtain ⟨s1, e1, c1⟩ := Add_f ci_zero (by decide) (by decide) 0 (by decide) 1
  have c1' : CI s1 0 1 := c1
  obtain ⟨s2, e2, c2⟩ := Add_f c1' (by decide) (by decide) (0 + 1) (by decide) 1
  have c2' : CI s2 0 2 := c2
  obtain ⟨s3, e3, c3⟩ := Add_f c2' (by decide) (by decide) (0 + 1 + 1) (by decide) 2
  have c3' : CI s3 (-1) 2 := c3
  have e4 := Lean_f c3' (by decide) (by decide) (0 + 1 + 1 + 1) k
  have e5 := Spread_f c3' (by decide) (by decide) (0 + 1 + 1 + 1) (by decide) k
  have e6 : (FloatKind.f64.format.order s3.re 13830554455654793216 == some .eq) = true := by rw [feq c3'.1 fi_none]; rfl
  have e7 : (FloatKind.f64.format.order s3.im 4611686018427387904 == some .eq) = true := by rw [feq c3'.2 fi_two]; rfl
  have e8 : (FloatKind.f64.format.order (turn 3).re 0 == some .eq && FloatKind.f64.format.order (turn 3).im 13830554455654793216 == some .eq) = true := by
    have := ceq (x := turn 3) (y := ⟨0, 13830554455654793216⟩) (ci_turn 3) ⟨fi_zero, fi_none⟩
    rw [this]; rfl
  unfold sluicewaylaw06_shown.f
  simp only [e1, e2, e3, e4, e5, drift_Turn.f, Option.bind_some]
  rw [e6, e7, e8]
  rfl
theorem of_l (l : List Int) (hl : l.length ≤ 300) : ∀ (r : Nat) (i : Nat) (k : Nat) (s : Cx), l.length - i = r → i ≤ l.length → r < k → CI s (sre (l.take i)) (sim (l.take i)) →
    ∃ s', sluicewaylaw06_of.l0 k l i s i = some (s', (l.length : Int), l) ∧ CI s' (sre l) (sim l) := by
  intro r
  induction r with
  | zero =>
    intro i k s hr hi hk hs
    have hil : i = l.length := by omega
    obtain ⟨k, rfl⟩ : ∃ k', k = k' + 1 := ⟨k - 1, by omega⟩
    subst hil
    rw [List.take_length] at hs
    exact ⟨s, by rw [sluicewaylaw06_of.l0, if_neg (by omega)], hs⟩
  | succ r ih =>
    intro i k s hr hi hk hs
    obtain ⟨k, rfl⟩ : ∃ k', k = k' + 1 := ⟨k - 1, by omega⟩
    have hlt : i < l.length := by omega
    have hb := sre_le (l.take i)
    rw [List.length_take] at hb
    obtain ⟨s', e, c⟩ := Add_f hs (by omega) (by omega) i (by omega) (rd l i)
    have hrd : rd l i = l[i] := by simp [rd, List.getD, hlt]
    have ht : l.take (i + 1) = l.take i ++ [l[i]] := by rw [List.take_succ_eq_append_getElem hlt]
    rw [sluicewaylaw06_of.l0, if_pos (by omega), if_pos (by omega), e]
    simp only [Option.bind_some]
    rw [wrap64_in _ (by omega)]
    rw [hrd, ← sre_snoc, ← sim_snoc, ← ht] at c
    have := ih (i + 1) k s' (by omega) (by omega) (by omega) c
    rw [show ((i + 1 : Nat) : Int) = (i : Int) + 1 by omega] at this
    exact this
theorem of_f (l : List Int) (k : Nat) (hk : 301 ≤ k) : ∃ s, sluicewaylaw06_of.f k l = some (s, ((l.take 300).length : Int), l.take 300) ∧ CI s (sre (l.take 300)) (sim (l.take 300)) := by
  have hm : mn (l.length : Int) 300 = ((min l.length 300 : Nat) : Int) := by unfold mn; split <;> omega
  unfold sluicewaylaw06_of.f
  rw [hm, if_pos (by omega), if_pos (by omega)]
  have ht : l.take ((((min l.length 300 : Nat) : Int))).toNat = l.take 300 := by
    rw [Int.toNat_natCast]
    by_cases h : l.length ≤ 300
    · rw [Nat.min_eq_left h, List.take_length, List.take_of_length_le h]
    · rw [Nat.min_eq_right (by omega)]
  rw [ht]
  have hlen : (l.take 300).length ≤ 300 := by rw [List.length_take]; omega
  exact of_l (l.take 300) hlen _ 0 k ⟨0, 0⟩ rfl (by omega) (by omega) ci_zero
theorem Shift_f {s : Cx} {a b : Int} (hs : CI s a b) (ha : a.natAbs < 2 ^ 50) (hb : b.natAbs < 2 ^ 50) (n : Int) (k : Int) : ∃ s', drift_Drift_Shift.f s n k = some (s', n) ∧ CI s' (a * cre k - b * cim k) (a * cim k + b * cre k) := by
  obtain ⟨h1, h2⟩ := ci_turned hs ha hb k
  refine ⟨_, ?_, h2⟩
  simp only [drift_Drift_Shift.f, drift_Turn.f, Option.bind_some]
  rw [if_pos h1]
theorem Mod_f (k : Int) : sluicewayref06_Mod.f k = some (k % 4) := by
  unfold sluicewayref06_Mod.f
  have h1 : -4 < Int.tmod k 4 ∧ Int.tmod k 4 < 4 := ⟨by have := Int.lt_tmod_of_pos k (b := 4) (by decide); omega, Int.tmod_lt_of_pos k (by decide)⟩
  rw [wrap64_in _ (by omega)]
  congr 1
  rw [Int.tmod_eq_emod_of_nonneg (by omega)]
  have h2 : (Int.tmod k 4 + 4) % 4 = Int.tmod k 4 % 4 := by omega
  rw [h2]
  have h3 : k = 4 * Int.tdiv k 4 + Int.tmod k 4 := by rw [Int.mul_tdiv_add_tmod]
  omega
theorem refTurn_f (k : Int) : sluicewayref06_Turn.f k = some (cre k, cim k) := by
  unfold sluicewayref06_Turn.f
  rw [Mod_f]
  simp only [Option.bind_some]
  have h : k % 4 = 0 ∨ k % 4 = 1 ∨ k % 4 = 2 ∨ k % 4 = 3 := by omega
  unfold cre cim
  rcases h with h | h | h | h <;> rw [h] <;> rfl
theorem sum_l (m : List Int) (hl : m.length ≤ 300) : ∀ (r i k : Nat), m.length - i = r → i ≤ m.length → r < k →
    sluicewayref06_Sum.l0 k m i (sre (m.take i)) (sim (m.take i)) = some (sre m, sim m) := by
  intro r
  induction r with
  | zero =>
    intro i k hr hi hk
    have hil : i = m.length := by omega
    obtain ⟨k, rfl⟩ : ∃ k', k = k' + 1 := ⟨k - 1, by omega⟩
    subst hil
    rw [List.take_length, sluicewayref06_Sum.l0, if_neg (by omega)]
  | succ r ih =>
    intro i k hr hi hk
    obtain ⟨k, rfl⟩ : ∃ k', k = k' + 1 := ⟨k - 1, by omega⟩
    have hlt : i < m.length := by omega
    have hb := sre_le (m.take i)
    rw [List.length_take] at hb
    have hrd : rd m i = m[i] := by simp [rd, List.getD, hlt]
    have ht : m.take (i + 1) = m.take i ++ [m[i]] := by rw [List.take_succ_eq_append_getElem hlt]
    have h1 := cre_le m[i]; have h2 := cim_le m[i]
    rw [sluicewayref06_Sum.l0, if_pos (by omega), if_pos (by omega), hrd, refTurn_f]
    simp only [Option.bind_some]
    rw [wrap64_in ((i : Int) + 1) (by omega), wrap64_in _ (by omega), wrap64_in _ (by omega), ← sre_snoc, ← sim_snoc, ← ht]
    have := ih (i + 1) k (by omega) (by omega) (by omega)
    rw [show ((i + 1 : Nat) : Int) = (i : Int) + 1 by omega] at this
    exact this
theorem along_r {a b : Int} (ha : a.natAbs < 2 ^ 50) (hb : b.natAbs < 2 ^ 50) (k : Int) (h : 0 ≤ k ∧ k < 4) : sluicewayref06_along.f a b k = some (al a b k) := by
  unfold sluicewayref06_along.f
  simp only [Option.bind_some]
  rw [if_pos h.1, if_pos (by simpa using h.2), wrap64_in (-a) (by omega), wrap64_in (-b) (by omega)]
  have h4 : k = 0 ∨ k = 1 ∨ k = 2 ∨ k = 3 := by omega
  rcases h4 with h4 | h4 | h4 | h4 <;> subst h4 <;> simp only [al0, al1, al2, al3] <;> rfl
theorem lean_step {a b : Int} (ha : a.natAbs < 2 ^ 50) (hb : b.natAbs < 2 ^ 50) (k : Nat) (p : Int × Int) (hp : (0 ≤ p.1 ∧ p.1 < 4) ∧ p.2 = al a b p.1) (i : Int) (hi : 0 ≤ i ∧ i < 4) :
    sluicewayref06_Lean.l0 (k + 1) p.1 i a b = sluicewayref06_Lean.l0 k (up p i (al a b i)).1 (i + 1) a b ∧ ((0 ≤ (up p i (al a b i)).1 ∧ (up p i (al a b i)).1 < 4) ∧ (up p i (al a b i)).2 = al a b (up p i (al a b i)).1) := by
  rw [sluicewayref06_Lean.l0, if_pos hi.2, along_r ha hb i hi, along_r ha hb p.1 hp.1]
  simp only [Option.bind_some]
  rw [wrap64_in _ (by omega), ← hp.2]
  unfold up
  by_cases hc : al a b i > p.2
  · rw [if_pos hc, if_pos hc]; exact ⟨rfl, hi, rfl⟩
  · rw [if_neg hc, if_neg hc]; exact ⟨rfl, hp⟩
theorem lean_r {a b : Int} (ha : a.natAbs < 2 ^ 50) (hb : b.natAbs < 2 ^ 50) (k : Nat) : sluicewayref06_Lean.f (k + 4) a b = some (if a = 0 ∧ b = 0 then (0, false) else ((bst a b).1, true)) := by
  obtain ⟨e1, p1⟩ := lean_step ha hb (k + 3) (0, a) (⟨⟨(by omega : (0 : Int) ≤ 0), (by omega : (0 : Int) < 4)⟩, (al0 a b).symm⟩) 1 (by decide)
  obtain ⟨e2, p2⟩ := lean_step ha hb (k + 2) _ p1 2 (by decide)
  obtain ⟨e3, p3⟩ := lean_step ha hb (k + 1) _ p2 3 (by decide)
  rw [al1] at e1; rw [al1, al2] at e2; rw [al1, al2, al3] at e3
  unfold sluicewayref06_Lean.f
  refine (e1.trans (e2.trans e3)).trans ?_
  rw [sluicewayref06_Lean.l0, if_neg (by decide)]
  by_cases h1 : a = 0
  · by_cases h2 : b = 0
    · rw [if_pos h1, if_pos h2, if_pos ⟨h1, h2⟩]
    · rw [if_pos h1, if_neg h2, if_neg (by simp [h2])]; rfl
  · rw [if_neg h1, if_neg (by simp [h1])]; rfl
theorem spread_r {a b : Int} (ha : a.natAbs < 2 ^ 50) (hb : b.natAbs < 2 ^ 50) (n : Int) (hn : n.natAbs < 2 ^ 50) (k : Nat) : sluicewayref06_Spread.f (k + 4) a b n = some (n - (bst a b).2) := by
  obtain ⟨h1, h2, _⟩ := bst_spec a b
  have h4 : (bst a b).1 = 0 ∨ (bst a b).1 = 1 ∨ (bst a b).1 = 2 ∨ (bst a b).1 = 3 := by omega
  have hle : (bst a b).2.natAbs < 2 ^ 50 := by
    rcases h4 with h4 | h4 | h4 | h4 <;> rw [h4] at h2 <;> simp only [al0, al1, al2, al3] at h2 <;> omega
  unfold sluicewayref06_Spread.f
  rw [lean_r ha hb k]
  simp only [Option.bind_some]
  by_cases hc : a = 0 ∧ b = 0
  · rw [if_pos hc, along_r ha hb 0 (by decide), al0]
    obtain ⟨rfl, rfl⟩ := hc
    simp only [Option.bind_some]
    rw [wrap64_in _ (by omega)]
    rfl
  · rw [if_neg hc, along_r ha hb _ h1, ← h2]
    simp only [Option.bind_some]
    rw [wrap64_in _ (by omega)]
theorem shift_end (x i a b : Int) (k : Nat) (h : ¬ i < x % 4) : sluicewayref06_Shift.l0 (k + 1) x i a b = some (a, b) := by
  rw [sluicewayref06_Shift.l0, Mod_f]
  simp only [Option.bind_some]
  rw [if_neg h]
theorem shift_step (x i a b : Int) (k : Nat) (h : i < x % 4) (hi : 0 ≤ i) (hb : b.natAbs < 2 ^ 50) : sluicewayref06_Shift.l0 (k + 1) x i a b = sluicewayref06_Shift.l0 k x (i + 1) (-b) a := by
  rw [sluicewayref06_Shift.l0, Mod_f]
  simp only [Option.bind_some]
  rw [if_pos h, wrap64_in _ (by omega), wrap64_in _ (by omega)]
theorem shift_r {a b : Int} (ha : a.natAbs < 2 ^ 50) (hb : b.natAbs < 2 ^ 50) (x : Int) (k : Nat) : sluicewayref06_Shift.f (k + 4) a b x = some (a * cre x - b * cim x, a * cim x + b * cre x) := by
  unfold sluicewayref06_Shift.f
  rcases turn_cases x with ⟨h, h1, h2, _⟩ | ⟨h, h1, h2, _⟩ | ⟨h, h1, h2, _⟩ | ⟨h, h1, h2, _⟩ <;> rw [h1, h2]
  · rw [shift_end x 0 a b (k + 3) (by omega)]
    congr 2 <;> omega
  · rw [shift_step x 0 a b (k + 3) (by omega) (by omega) hb, shift_end x _ _ _ (k + 2) (by omega)]
    congr 2 <;> omega
  · rw [shift_step x 0 a b (k + 3) (by omega) (by omega) hb, shift_step x _ _ _ (k + 2) (by omega) (by omega) ha, shift_end x _ _ _ (k + 1) (by omega)]
    congr 2 <;> omega
  · rw [shift_step x 0 a b (k + 3) (by omega) (by omega) hb, shift_step x _ _ _ (k + 2) (by omega) (by omega) ha, shift_step x _ _ _ (k + 1) (by omega) (by omega) (by omega), shift_end x _ _ _ k (by omega)]
    congr 2 <;> omega
theorem same_f {s : Cx} {a b : Int} (hs : CI s a b) (ha : a.natAbs < 2 ^ 50) (hb : b.natAbs < 2 ^ 50) (n : Int) : sluicewaylaw06_same.f s n a b n = some true := by
  unfold sluicewaylaw06_same.f
  rw [feq hs.1 (fi_ofInt a (by omega)), feq hs.2 (fi_ofInt b (by omega))]
  simp
theorem DriftTells : sluicewaylaw06_DriftTells.Pure := by
  intro l x _ _ _ _
  refine ⟨400, ?_⟩
  have hsh : sluicewaylaw06_shown.f 400 = some true := shown_f 396
  obtain ⟨s, e0, c0⟩ := of_f l 400 (by omega)
  have hlen : (l.take 300).length ≤ 300 := by rw [List.length_take]; omega
  have hB := sre_le (l.take 300)
  have hsum : sluicewayref06_Sum.f 400 (l.take 300) = some (sre (l.take 300), sim (l.take 300)) := sum_l _ hlen _ 0 400 rfl (by omega) (by omega)
  unfold sluicewaylaw06_DriftTells.f
  rw [hsh, e0]
  generalize l.take 300 = m at *
  generalize sre m = X at *
  generalize sim m = Y at *
  have hX : -300 ≤ X ∧ X ≤ 300 := by omega
  have hY : -300 ≤ Y ∧ Y ≤ 300 := by omega
  have hn : (m.length : Int).natAbs < 2 ^ 50 := by omega
  obtain ⟨s1, e1, c1⟩ := Shift_f c0 (by omega) (by omega) (m.length : Int) x
  have b1 := rot_le hX hY x
  have L1 : drift_Drift_Lean.f 400 s (m.length : Int) = _ := Lean_f c0 (by omega) (by omega) (m.length : Int) 396
  have L2 : sluicewayref06_Lean.f 400 X Y = _ := lean_r (by omega) (by omega) 396
  have S1 : drift_Drift_Spread.f 400 s (m.length : Int) = _ := Spread_f c0 (by omega) (by omega) (m.length : Int) hn 396
  have S2 : sluicewayref06_Spread.f 400 X Y (m.length : Int) = _ := spread_r (by omega) (by omega) (m.length : Int) hn 396
  have H2 : sluicewayref06_Shift.f 400 X Y x = _ := shift_r (by omega) (by omega) x 396
  have M1 := same_f c0 (by omega) (by omega) (m.length : Int)
  have M2 := same_f c1 (by omega) (by omega) (m.length : Int)
  have hc := cre_le x; have hd := cim_le x
  have ct := ci_turn x
  have q1 : (FloatKind.f64.format.order (turn x).re (floatOfInt .f64 (cre x)) == some .eq) = true := by rw [feq ct.1 (fi_ofInt (cre x) (by omega))]; simp
  have q2 : (FloatKind.f64.format.order (turn x).im (floatOfInt .f64 (cim x)) == some .eq) = true := by rw [feq ct.2 (fi_ofInt (cim x) (by omega))]; simp
  simp only [Option.bind_some, hsum, refTurn_f, drift_Turn.f, L1, L2, M1, e1, H2, M2, q1, q2, S1, S2, if_true, beq_self_eq_true]

end Go.Proofs.Ytnlcgibbonbniaa.Pure
