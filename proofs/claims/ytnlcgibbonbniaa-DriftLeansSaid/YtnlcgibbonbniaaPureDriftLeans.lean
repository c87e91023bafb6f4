import Derived.Test.YtnlcgibbonbniaaDr
import Derived.Test.YtnlcgibbonbniaaGDriftLeansx2
namespace Go.Proofs.Ytnlcgibbonbniaa.Pure
open Go.RowKit Go.Proofs.Ytnlcgibbonbniaa Go.Proofs.Ytnlcgibbonbniaa.GDriftLeans Go.Proofs.YtnlcgibbonbniaaW.PrintWords Go.Proofs.YtnlcgibbonbniaaW.PrintLast Go.Proofs.DriftFloat
set_option linter.unusedVariables false

theorem along_f {s : Cx} {a b : Int} (hs : CI s a b) (ha : a.natAbs < 2 ^ 50) (hb : b.natAbs < 2 ^ 50) (n k : Int) : ∃ f, drift_Drift_along.f s n k = some f ∧ FI f (al a b k) := by
  obtain ⟨h1, h2⟩ := ci_along hs ha hb k
  refine ⟨_, ?_, h2⟩
  simp only [drift_Drift_along.f, drift_Turn.f, Option.bind_some]
  rw [if_pos h1]
theorem best_step {s : Cx} {a b : Int} (hs : CI s a b) (ha : a.natAbs < 2 ^ 50) (hb : b.natAbs < 2 ^ 50) (n : Int) (k : Nat) (p : Int × Int) (f : Nat) (hf : FI f p.2) (i : Int) (h0 : 0 ≤ i) (hi : i < 4) :
    ∃ f', drift_Drift_best.l0 (k + 1) p.1 f i s n = drift_Drift_best.l0 k (up p i (al a b i)).1 f' (i + 1) s n ∧ FI f' (up p i (al a b i)).2 := by
  obtain ⟨g, e, hg⟩ := along_f hs ha hb n i
  rw [drift_Drift_best.l0, if_pos hi, e]
  simp only [Option.bind_some]
  rw [fgt hg hf, wrap64_in (i + 1) (by omega)]
  by_cases hc : al a b i > p.2
  · exact ⟨g, by simp [up, hc], by simpa [up, hc] using hg⟩
  · exact ⟨f, by simp [up, hc], by simpa [up, hc] using hf⟩
theorem best_f {s : Cx} {a b : Int} (hs : CI s a b) (ha : a.natAbs < 2 ^ 50) (hb : b.natAbs < 2 ^ 50) (n : Int) (k : Nat) : ∃ f, drift_Drift_best.f (k + 4) s n = some ((bst a b).1, f) ∧ FI f (bst a b).2 := by
  obtain ⟨f0, e0, h0⟩ := along_f hs ha hb n 0
  rw [al0] at h0
  obtain ⟨f1, e1, h1⟩ := best_step hs ha hb n (k + 3) (0, a) f0 h0 1 (by decide) (by decide)
  obtain ⟨f2, e2, h2⟩ := best_step hs ha hb n (k + 2) _ f1 h1 2 (by decide) (by decide)
  obtain ⟨f3, e3, h3⟩ := best_step hs ha hb n (k + 1) _ f2 h2 3 (by decide) (by decide)
  rw [al1] at e1; rw [al1, al2] at e2; rw [al1, al2, al3] at e3 h3
  refine ⟨f3, ?_, h3⟩
  unfold drift_Drift_best.f
  rw [e0]
  simp only [Option.bind_some]
  refine e1.trans (e2.trans (e3.trans ?_))
  rw [drift_Drift_best.l0, if_neg (by decide)]
  rfl
theorem Lean_f {s : Cx} {a b : Int} (hs : CI s a b) (ha : a.natAbs < 2 ^ 50) (hb : b.natAbs < 2 ^ 50) (n : Int) (k : Nat) : drift_Drift_Lean.f (k + 4) s n = some (if a = 0 ∧ b = 0 then (0, false) else ((bst a b).1, true)) := by
  obtain ⟨f, e, h⟩ := best_f hs ha hb n k
  unfold drift_Drift_Lean.f
  rw [e]
  simp only [Option.bind_some]
  have := ceq hs ci_zero
  rw [this]
  by_cases hc : a = 0 ∧ b = 0
  · simp [hc]
  · simp [hc]
theorem Spread_f {s : Cx} {a b : Int} (hs : CI s a b) (ha : a.natAbs < 2 ^ 50) (hb : b.natAbs < 2 ^ 50) (n : Int) (hn : n.natAbs < 2 ^ 50) (k : Nat) : drift_Drift_Spread.f (k + 4) s n = some (n - (bst a b).2) := by
  obtain ⟨f, e, h⟩ := best_f hs ha hb n k
  have hle : (bst a b).2.natAbs < 2 ^ 50 := by
    obtain ⟨⟨h1, h2⟩, h3, _⟩ := bst_spec a b
    have h4 : (bst a b).1 = 0 ∨ (bst a b).1 = 1 ∨ (bst a b).1 = 2 ∨ (bst a b).1 = 3 := by omega
    rcases h4 with h4 | h4 | h4 | h4 <;> rw [h4] at h3 <;> simp only [al0, al1, al2, al3] at h3 <;> omega
  obtain ⟨h1, h2⟩ := f2i_fi h (by omega)
  unfold drift_Drift_Spread.f
  rw [e]
  simp only [Option.bind_some]
  rw [if_pos h1, h2, wrap64_in _ (by omega)]
theorem Add_f {s : Cx} {a b : Int} (hs : CI s a b) (ha : a.natAbs < 2 ^ 50) (hb : b.natAbs < 2 ^ 50) (n : Int) (hn : n.natAbs < 2 ^ 50) (k : Int) : ∃ s', drift_Drift_Add.f s n k = some (s', n + 1) ∧ CI s' (a + cre k) (b + cim k) := by
  have h1 := cre_le k; have h2 := cim_le k
  obtain ⟨h3, h4⟩ := ci_add hs (ci_turn k) (by omega) (by omega)
  refine ⟨_, ?_, h4⟩
  simp only [drift_Drift_Add.f, drift_Turn.f, Option.bind_some]
  rw [if_pos h3, wrap64_in _ (by omega)]
theorem shown_f (k : Nat) : sluicewaylaw06_shown.f (k + 4) = some true := by
  obtain ⟨s1, e1, c1⟩ := Add_f ci_zero (by decide) (by decide) 0 (by decide) 1
  have c1' : CI s1 0 1 := c1
  obtain ⟨s2, e2, c2⟩ := Add_f c1' (by decide) (by decide) (0 + 1) (by decide) 1
  have c2' : CI s2 0 2 := c2
  obtain ⟨s3, e3, c3⟩ := Add_f c2' (by decide) (by decide) (0 + 1 + 1) (by decide) 2
  have c3' : CI s3 (-1) 2 := c3
  have e4 := Lean_f c3' (by decide) (by decide) (0 + 1 + 1 + 1) k
  have e5 := Spread_f c3' (by decide) (by decide) (0 + 1 + 1 + 1) (by decide) k
  have e6 : (FloatKind.f64.format.order s3.re 13830554455654793216 == some .eq) = true := by rw [feq c3'.1 fi_none]; rfl
  have e7 : (FloatKind.f64.format.order s3.im 4611686018427387904 == some .eq) = true := by rw [feq c3'.2 fi_two]; rfl
  have e8 : (FloatKind.f64.format.order (turn 3).re 0 == some .eq && FloatKind.f64.format.order (turn 3).im 13830554455654793216 == some .eq) = true := by
    have := ceq (x := turn 3) (y := ⟨0, 13830554455654793216⟩) (ci_turn 3) ⟨fi_zero, fi_none⟩
    rw [this]; rfl
  unfold sluicewaylaw06_shown.f
  simp only [e1, e2, e3, e4, e5, drift_Turn.f, Option.bind_some]
  rw [e6, e7, e8]
  rfl
theorem Shift_f {s : Cx} {a b : Int} (hs : CI s a b) (ha : a.natAbs < 2 ^ 50) (hb : b.natAbs < 2 ^ 50) (n : Int) (k : Int) : ∃ s', drift_Drift_Shift.f s n k = some (s', n) ∧ CI s' (a * cre k - b * cim k) (a * cim k + b * cre k) := by
  obtain ⟨h1, h2⟩ := ci_turned hs ha hb k
  refine ⟨_, ?_, h2⟩
  simp only [drift_Drift_Shift.f, drift_Turn.f, Option.bind_some]
  rw [if_pos h1]
theorem Mod_f (k : Int) : sluicewayref06_Mod.f k = some (k % 4) := by
  unfold sluicewayref06_Mod.f
  have h1 : -4 < Int.tmod k 4 ∧ Int.tmod k 4 < 4 := ⟨by have := Int.lt_tmod_of_pos k (b := 4) (by decide); omega, Int.tmod_lt_of_pos k (by decide)⟩
  rw [wrap64_in _ (by omega)]
  congr 1
  rw [Int.tmod_eq_emod_of_nonneg (by omega)]
  have h2 : (Int.tmod k 4 + 4) % 4 = Int.tmod k 4 % 4 := by omega
  rw [h2]
  have h3 : k = 4 * Int.tdiv k 4 + Int.tmod k 4 := by rw [Int.mul_tdiv_add_tmod]
  omega
theorem bst_cases (a b : Int) : ((bst a b).1 = 0 ∧ (bst a b).2 = a ∨ (bst a b).1 = 1 ∧ (bst a b).2 = b ∨ (bst a b).1 = 2 ∧ (bst a b).2 = -a ∨ (bst a b).1 = 3 ∧ (bst a b).2 = -b) ∧ a ≤ (bst a b).2 ∧ b ≤ (bst a b).2 ∧ -a ≤ (bst a b).2 ∧ -b ≤ (bst a b).2 := by
  obtain ⟨h1, h2, h3⟩ := bst_spec a b
  refine ⟨?_, h3⟩
  have h4 : (bst a b).1 = 0 ∨ (bst a b).1 = 1 ∨ (bst a b).1 = 2 ∨ (bst a b).1 = 3 := by omega
  rcases h4 with h4 | h4 | h4 | h4 <;> rw [h4] at h2 ⊢ <;> simp only [al0, al1, al2, al3] at h2 <;> omega
/-- Nearly n steps in the direction of o. -/
theorem lean_one {X Y o n i : Int} (hi : 2 * i < n) (h0 : 0 ≤ i) (hX : -i ≤ X - n * cre o ∧ X - n * cre o ≤ i) (hY : -i ≤ Y - n * cim o ∧ Y - n * cim o ≤ i) : (bst X Y).1 = o % 4 ∧ ¬ (X = 0 ∧ Y = 0) := by
  obtain ⟨h1, h2⟩ := bst_cases X Y
  rcases turn_cases o with ⟨h, g1, g2, _⟩ | ⟨h, g1, g2, _⟩ | ⟨h, g1, g2, _⟩ | ⟨h, g1, g2, _⟩ <;> rw [g1] at hX <;> rw [g2] at hY <;> omega
theorem far_one {o n : Int} (hn : 0 < n) : (bst (n * cre o) (n * cim o)).2 = n := by
  obtain ⟨h1, h2⟩ := bst_cases (n * cre o) (n * cim o)
  rcases turn_cases o with ⟨h, g1, g2, _⟩ | ⟨h, g1, g2, _⟩ | ⟨h, g1, g2, _⟩ | ⟨h, g1, g2, _⟩ <;> rw [g1, g2] at h1 h2 ⊢ <;> omega
theorem j3_f (o : Int) {s : Cx} {X Y n i : Int} (hs : CI s X Y) (hn : 0 < n ∧ n ≤ 1024) (hi : 2 * i < n) (h0 : 0 ≤ i) (hX : -i ≤ X - n * cre o ∧ X - n * cre o ≤ i) (hY : -i ≤ Y - n * cim o ∧ Y - n * cim o ≤ i) (m : Int) (k : Nat) (hk : 5 ≤ k) :
    sluicewaylaw06_DriftLeans.j3 k o true s m = some true := by
  obtain ⟨k, rfl⟩ : ∃ k', k = k' + 4 + 1 := ⟨k - 5, by omega⟩
  have hB : -2000 ≤ X ∧ X ≤ 2000 ∧ -2000 ≤ Y ∧ Y ≤ 2000 := by
    rcases turn_cases o with ⟨h, g1, g2, _⟩ | ⟨h, g1, g2, _⟩ | ⟨h, g1, g2, _⟩ | ⟨h, g1, g2, _⟩ <;> rw [g1] at hX <;> rw [g2] at hY <;> omega
  have L1 := Lean_f hs (by omega) (by omega) m k
  obtain ⟨s1, e1, c1⟩ := Shift_f hs (by omega) (by omega) m 1
  rw [show cre 1 = 0 from rfl, show cim 1 = 1 from rfl] at c1
  have L2 := Lean_f c1 (by omega) (by omega) m k
  obtain ⟨d1, d2⟩ := lean_one hi h0 hX hY
  obtain ⟨d3, d4⟩ := lean_one (X := X * 0 - Y * 1) (Y := X * 1 + Y * 0) (o := o + 1) hi h0 (by
    rcases turn_cases o with ⟨h, g1, g2, _⟩ | ⟨h, g1, g2, _⟩ | ⟨h, g1, g2, _⟩ | ⟨h, g1, g2, _⟩ <;>
    rcases turn_cases (o + 1) with ⟨f, f1, f2, _⟩ | ⟨f, f1, f2, _⟩ | ⟨f, f1, f2, _⟩ | ⟨f, f1, f2, _⟩ <;>
    first | (exfalso; omega) | (rw [g1] at hX; rw [g2] at hY; rw [f1]; omega)) (by
    rcases turn_cases o with ⟨h, g1, g2, _⟩ | ⟨h, g1, g2, _⟩ | ⟨h, g1, g2, _⟩ | ⟨h, g1, g2, _⟩ <;>
    rcases turn_cases (o + 1) with ⟨f, f1, f2, _⟩ | ⟨f, f1, f2, _⟩ | ⟨f, f1, f2, _⟩ | ⟨f, f1, f2, _⟩ <;>
    first | (exfalso; omega) | (rw [g1] at hX; rw [g2] at hY; rw [f2]; omega))
  rw [if_neg d2, d1] at L1
  rw [if_neg d4, d3] at L2
  rw [sluicewaylaw06_DriftLeans.j3]
  simp only [L1, L2, e1, Mod_f, Option.bind_some, if_true]
  congr 1
  rw [beq_iff_eq, wrap64_in _ (by omega), Int.tmod_eq_emod_of_nonneg (by omega)]
  omega
theorem l1_f (o : Int) (l : List Int) (N : Nat) (hN : 1 ≤ N ∧ N ≤ 1024) : ∀ (r i k : Nat) (s : Cx), N - 2 * i ≤ r → 2 * i < N → i ≤ l.length → r + 6 ≤ k → CI s (N * cre o + sre (l.take i)) (N * cim o + sim (l.take i)) →
    sluicewaylaw06_DriftLeans.l1 k o N l true i s (N + i) = some true := by
  intro r
  induction r with
  | zero => intro i k s hr hi; omega
  | succ r ih =>
    intro i k s hr hi hl hk hs
    obtain ⟨k, rfl⟩ : ∃ k', k = k' + 1 := ⟨k - 1, by omega⟩
    have hb := sre_le (l.take i)
    rw [List.length_take, Nat.min_eq_left hl] at hb
    have fin : sluicewaylaw06_DriftLeans.j3 k o true s (N + i) = some true :=
      j3_f o hs (n := N) (i := i) (by omega) (by omega) (by omega) (by omega) (by omega) _ k (by omega)
    rw [sluicewaylaw06_DriftLeans.l1]
    by_cases hlt : i < l.length
    · rw [if_pos (by omega), wrap64_in (2 * (i : Int)) (by omega), wrap64_in _ (by omega)]
      by_cases h2 : 2 * (i : Int) + 2 < N
      · rw [if_pos h2, if_pos (by omega)]
        have hB : -2000 ≤ N * cre o + sre (l.take i) ∧ N * cre o + sre (l.take i) ≤ 2000 ∧ -2000 ≤ N * cim o + sim (l.take i) ∧ N * cim o + sim (l.take i) ≤ 2000 := by
          rcases turn_cases o with ⟨h, g1, g2, _⟩ | ⟨h, g1, g2, _⟩ | ⟨h, g1, g2, _⟩ | ⟨h, g1, g2, _⟩ <;> rw [g1, g2] <;> omega
        obtain ⟨s', e, c⟩ := Add_f hs (by omega) (by omega) (N + i) (by omega) (rd l i)
        have hrd : rd l i = l[i] := by simp [rd, List.getD, hlt]
        have ht : l.take (i + 1) = l.take i ++ [l[i]] := by rw [List.take_succ_eq_append_getElem hlt]
        rw [hrd, Int.add_assoc, Int.add_assoc, ← sre_snoc, ← sim_snoc, ← ht] at c
        rw [e]
        simp only [Option.bind_some]
        rw [wrap64_in _ (by omega)]
        have := ih (i + 1) k s' (by omega) (by omega) (by omega) (by omega) c
        rw [show ((i + 1 : Nat) : Int) = (i : Int) + 1 by omega, ← Int.add_assoc] at this
        exact this
      · rw [if_neg h2]; exact fin
    · rw [if_neg (by omega)]; exact fin
theorem l0_f (o : Int) (l : List Int) (N : Nat) (hN : 1 ≤ N ∧ N ≤ 1024) : ∀ (r i k : Nat) (s : Cx), N - i = r → i ≤ N → r + 2000 ≤ k → CI s (i * cre o) (i * cim o) →
    sluicewaylaw06_DriftLeans.l0 k o N l true i s i = some true := by
  intro r
  induction r with
  | zero =>
    intro i k s hr hi hk hs
    obtain ⟨k, rfl⟩ : ∃ k', k = k' + 4 + 1 := ⟨k - 5, by omega⟩
    have hiN : i = N := by omega
    subst hiN
    have hB : -2000 ≤ i * cre o ∧ i * cre o ≤ 2000 ∧ -2000 ≤ i * cim o ∧ i * cim o ≤ 2000 := by
      rcases turn_cases o with ⟨h, g1, g2, _⟩ | ⟨h, g1, g2, _⟩ | ⟨h, g1, g2, _⟩ | ⟨h, g1, g2, _⟩ <;> rw [g1, g2] <;> omega
    have L1 := Lean_f hs (by omega) (by omega) i k
    have S1 := Spread_f hs (by omega) (by omega) i (by omega) k
    rw [far_one (by omega)] at S1
    obtain ⟨d1, d2⟩ := lean_one (X := i * cre o) (Y := i * cim o) (o := o) (n := i) (i := 0) (by omega) (by omega) (by omega) (by omega)
    rw [if_neg d2, d1] at L1
    rw [sluicewaylaw06_DriftLeans.l0, if_neg (by omega), L1, Mod_f]
    simp only [Option.bind_some, if_true]
    rw [S1]
    simp only [Option.bind_some]
    rw [show ((i : Int) - i != 0) = false by simp]
    obtain ⟨k, rfl⟩ : ∃ k', k = k' + 1 := ⟨k - 1, by omega⟩
    rw [show k + 1 + 4 = k + 4 + 1 by omega, sluicewaylaw06_DriftLeans.j1, if_neg (by decide)]
    have := l1_f o l i hN i 0 (k + 4) s (by omega) (by omega) (by omega) (by omega) (by
      have e1 : sre (List.take 0 l) = 0 := by simp [sre]
      have e2 : sim (List.take 0 l) = 0 := by simp [sim]
      rw [e1, e2, Int.add_zero, Int.add_zero]; exact hs)
    rw [show ((0 : Nat) : Int) = 0 from rfl, Int.add_zero] at this
    exact this
  | succ r ih =>
    intro i k s hr hi hk hs
    obtain ⟨k, rfl⟩ : ∃ k', k = k' + 1 := ⟨k - 1, by omega⟩
    have hB : -2000 ≤ i * cre o ∧ i * cre o ≤ 2000 ∧ -2000 ≤ i * cim o ∧ i * cim o ≤ 2000 := by
      rcases turn_cases o with ⟨h, g1, g2, _⟩ | ⟨h, g1, g2, _⟩ | ⟨h, g1, g2, _⟩ | ⟨h, g1, g2, _⟩ <;> rw [g1, g2] <;> omega
    obtain ⟨s', e, c⟩ := Add_f hs (by omega) (by omega) i (by omega) o
    rw [sluicewaylaw06_DriftLeans.l0, if_pos (by omega), e]
    simp only [Option.bind_some]
    rw [wrap64_in _ (by omega)]
    have e1 : ((i + 1 : Nat) : Int) * cre o = i * cre o + cre o := by rw [show ((i + 1 : Nat) : Int) = (i : Int) + 1 by omega, Int.add_mul]; omega
    have e2 : ((i + 1 : Nat) : Int) * cim o = i * cim o + cim o := by rw [show ((i + 1 : Nat) : Int) = (i : Int) + 1 by omega, Int.add_mul]; omega
    rw [← e1, ← e2] at c
    have := ih (i + 1) k s' (by omega) (by omega) (by omega) c
    rw [show ((i + 1 : Nat) : Int) = (i : Int) + 1 by omega] at this
    exact this
theorem DriftLeans : sluicewaylaw06_DriftLeans.Pure := by
  intro o n0 l _ _ _ _ _
  refine ⟨4000, ?_⟩
  have hsh : sluicewaylaw06_shown.f 4000 = some true := shown_f 3996
  unfold sluicewaylaw06_DriftLeans.f
  rw [hsh, mask10]
  simp only [Option.bind_some]
  rw [wrap64_in _ (by omega)]
  obtain ⟨N, hN⟩ : ∃ N : Nat, (N : Int) = 1 + n0 % 1024 := ⟨(1 + n0 % 1024).toNat, by omega⟩
  rw [← hN]
  have := l0_f o l N (by omega) N 0 4000 ⟨0, 0⟩ (by omega) (by omega) (by omega) (by
    rw [show ((0 : Nat) : Int) = 0 from rfl, Int.zero_mul, Int.zero_mul]; exact ci_zero)
  exact this

end Go.Proofs.Ytnlcgibbonbniaa.Pure
