import Derived.Test.YtnlcgibbonbniaaDr
import Derived.Test.YtnlcgibbonbniaaGDriftTurnsx2
namespace Go.Proofs.Ytnlcgibbonbniaa.Pure
open Go.RowKit Go.Proofs.Ytnlcgibbonbniaa Go.Proofs.Ytnlcgibbonbniaa.GDriftTurns Go.Proofs.YtnlcgibbonbniaaW.PrintWords Go.Proofs.YtnlcgibbonbniaaW.PrintLast Go.Proofs.DriftFloat
set_option linter.unusedVariables false

theorem along_f {s : Cx} {a b : Int} (hs : CI s a b) (ha : a.natAbs < 2 ^ 50) (hb : b.natAbs < 2 ^ 50) (n k : Int) : ∃ f, drift_Drift_along.f s n k = some f ∧ FI f (al a b k) := by
  obtain ⟨h1, h2⟩ := ci_along hs ha hb k
  refine ⟨_, ?_, h2⟩
  simp only [drift_Drift_along.f, drift_Turn.f, Option.bind_some]
  rw [if_pos h1]
theorem best_step {s : Cx} {a b : Int} (hs : CI s a b) (ha : a.natAbs < 2 ^ 50) (hb : b.natAbs < 2 ^ 50) (n : Int) (k : Nat) (p : Int × Int) (f : Nat) (hf : FI f p.2) (i : Int) (h0 : 0 ≤ i) (hi : i < 4) :
    ∃ f', drift_Drift_best.l0 (k + 1) p.1 f i s n = drift_Drift_best.l0 k (up p i (al a b i)).1 f' (i + 1) s n ∧ FI f' (up p i (al a b i)).2 := by
  obtain ⟨g, e, hg⟩ := along_f hs ha hb n i
  rw [drift_Drift_best.l0, if_pos hi, e]
  simp only [Option.bind_some]
  rw [fgt hg hf, wrap64_in (i + 1) (by omega)]
  by_cases hc : al a b i > p.2
  · exact ⟨g, by simp [up, hc], by simpa [up, hc] using hg⟩
  · exact ⟨f, by simp [up, hc], by simpa [up, hc] using hf⟩
theorem best_f {s : Cx} {a b : Int} (hs : CI s a b) (ha : a.natAbs < 2 ^ 50) (hb : b.natAbs < 2 ^ 50) (n : Int) (k : Nat) : ∃ f, drift_Drift_best.f (k + 4) s n = some ((bst a b).1, f) ∧ FI f (bst a b).2 := by
  obtain ⟨f0, e0, h0⟩ := along_f hs ha hb n 0
  rw [al0] at h0
  obtain ⟨f1, e1, h1⟩ := best_step hs ha hb n (k + 3) (0, a) f0 h0 1 (by decide) (by decide)
  obtain ⟨f2, e2, h2⟩ := best_step hs ha hb n (k + 2) _ f1 h1 2 (by decide) (by decide)
  obtain ⟨f3, e3, h3⟩ := best_step hs ha hb n (k + 1) _ f2 h2 3 (by decide) (by decide)
  rw [al1] at e1; rw [al1, al2] at e2; rw [al1, al2, al3] at e3 h3
  refine ⟨f3, ?_, h3⟩
  unfold drift_Drift_best.f
  rw [e0]
  simp only [Option.bind_some]
  refine e1.trans (e2.trans (e3.trans ?_))
  rw [drift_Drift_best.l0, if_neg (by decide)]
  rfl
theorem Lean_f {s : Cx} {a b : Int} (hs : CI s a b) (ha : a.natAbs < 2 ^ 50) (hb : b.natAbs < 2 ^ 50) (n : Int) (k : Nat) : drift_Drift_Lean.f (k + 4) s n = some (if a = 0 ∧ b = 0 then (0, false) else ((bst a b).1, true)) := by
  obtain ⟨f, e, h⟩ := best_f hs ha hb n k
  unfold drift_Drift_Lean.f
  rw [e]
  simp only [Option.bind_some]
  have := ceq hs ci_zero
  rw [this]
  by_cases hc : a = 0 ∧ b = 0
  · simp [hc]
  · simp [hc]
theorem Spread_f {s : Cx} {a b : Int} (hs : CI s a b) (ha : a.natAbs < 2 ^ 50) (hb : b.natAbs < 2 ^ 50) (n : Int) (hn : n.natAbs < 2 ^ 50) (k : Nat) : drift_Drift_Spread.f (k + 4) s n = some (n - (bst a b).2) := by
  obtain ⟨f, e, h⟩ := best_f hs ha hb n k
  have hle : (bst a b).2.natAbs < 2 ^ 50 := by
    obtain ⟨⟨h1, h2⟩, h3, _⟩ := bst_spec a b
    have h4 : (bst a b).1 = 0 ∨ (bst a b).1 = 1 ∨ (bst a b).1 = 2 ∨ (bst a b).1 = 3 := by omega
    rcases h4 with h4 | h4 | h4 | h4 <;> rw [h4] at h3 <;> simp only [al0, al1, al2, al3] at h3 <;> omega
  obtain ⟨h1, h2⟩ := f2i_fi h (by omega)
  unfold drift_Drift_Spread.f
  rw [e]
  simp only [Option.bind_some]
  rw [if_pos h1, h2, wrap64_in _ (by omega)]
theorem Add_f {s : Cx} {a b : Int} (hs : CI s a b) (ha : a.natAbs < 2 ^ 50) (hb : b.natAbs < 2 ^ 50) (n : Int) (hn : n.natAbs < 2 ^ 50) (k : Int) : ∃ s', drift_Drift_Add.f s n k = some (s', n + 1) ∧ CI s' (a + cre k) (b + cim k) := by
  have h1 := cre_le k; have h2 := cim_le k
  obtain ⟨h3, h4⟩ := ci_add hs (ci_turn k) (by omega) (by omega)
  refine ⟨_, ?_, h4⟩
  simp only [drift_Drift_Add.f, drift_Turn.f, Option.bind_some]
  rw [if_pos h3, wrap64_in _ (by omega)]
theorem shown_f (k : Nat) : sluicewaylaw06_shown.f (k + 4) = some true := by
  obtain ⟨s1, e1, c1⟩ := Add_f ci_zero (by decide) (by decide) 0 (by decide) 1
  have c1' : CI s1 0 1 := c1
  obtain ⟨s2, e2, c2⟩ := Add_f c1' (by decide) (by decide) (0 + 1) (by decide) 1
  have c2' : CI s2 0 2 := c2
  obtain ⟨s3, e3, c3⟩ := Add_f c2' (by decide) (by decide) (0 + 1 + 1) (by decide) 2
  have c3' : CI s3 (-1) 2 := c3
  have e4 := Lean_f c3' (by decide) (by decide) (0 + 1 + 1 + 1) k
  have e5 := Spread_f c3' (by decide) (by decide) (0 + 1 + 1 + 1) (by decide) k
  have e6 : (FloatKind.f64.format.order s3.re 13830554455654793216 == some .eq) = true := by rw [feq c3'.1 fi_none]; rfl
  have e7 : (FloatKind.f64.format.order s3.im 4611686018427387904 == some .eq) = true := by rw [feq c3'.2 fi_two]; rfl
  have e8 : (FloatKind.f64.format.order (turn 3).re 0 == some .eq && FloatKind.f64.format.order (turn 3).im 13830554455654793216 == some .eq) = true := by
    have := ceq (x := turn 3) (y := ⟨0, 13830554455654793216⟩) (ci_turn 3) ⟨fi_zero, fi_none⟩
    rw [this]; rfl
  unfold sluicewaylaw06_shown.f
  simp only [e1, e2, e3, e4, e5, drift_Turn.f, Option.bind_some]
  rw [e6, e7, e8]
  rfl
theorem of_l (l : List Int) (hl : l.length ≤ 300) : ∀ (r : Nat) (i : Nat) (k : Nat) (s : Cx), l.length - i = r → i ≤ l.length → r < k → CI s (sre (l.take i)) (sim (l.take i)) →
    ∃ s', sluicewaylaw06_of.l0 k l i s i = some (s', (l.length : Int), l) ∧ CI s' (sre l) (sim l) := by
  intro r
  induction r with
  | zero =>
    intro i k s hr hi hk hs
    have hil : i = l.length := by omega
    obtain ⟨k, rfl⟩ : ∃ k', k = k' + 1 := ⟨k - 1, by omega⟩
    subst hil
    rw [List.take_length] at hs
    exact ⟨s, by rw [sluicewaylaw06_of.l0, if_neg (by omega)], hs⟩
  | succ r ih =>
    intro i k s hr hi hk hs
    obtain ⟨k, rfl⟩ : ∃ k', k = k' + 1 := ⟨k - 1, by omega⟩
    have hlt : i < l.length := by omega
    have hb := sre_le (l.take i)
    rw [List.length_take] at hb
    obtain ⟨s', e, c⟩ := Add_f hs (by omega) (by omega) i (by omega) (rd l i)
    have hrd : rd l i = l[i] := by simp [rd, List.getD, hlt]
    have ht : l.take (i + 1) = l.take i ++ [l[i]] := by rw [List.take_succ_eq_append_getElem hlt]
    rw [sluicewaylaw06_of.l0, if_pos (by omega), if_pos (by omega), e]
    simp only [Option.bind_some]
    rw [wrap64_in _ (by omega)]
    rw [hrd, ← sre_snoc, ← sim_snoc, ← ht] at c
    have := ih (i + 1) k s' (by omega) (by omega) (by omega) c
    rw [show ((i + 1 : Nat) : Int) = (i : Int) + 1 by omega] at this
    exact this
theorem of_f (l : List Int) (k : Nat) (hk : 301 ≤ k) : ∃ s, sluicewaylaw06_of.f k l = some (s, ((l.take 300).length : Int), l.take 300) ∧ CI s (sre (l.take 300)) (sim (l.take 300)) := by
  have hm : mn (l.length : Int) 300 = ((min l.length 300 : Nat) : Int) := by unfold mn; split <;> omega
  unfold sluicewaylaw06_of.f
  rw [hm, if_pos (by omega), if_pos (by omega)]
  have ht : l.take ((((min l.length 300 : Nat) : Int))).toNat = l.take 300 := by
    rw [Int.toNat_natCast]
    by_cases h : l.length ≤ 300
    · rw [Nat.min_eq_left h, List.take_length, List.take_of_length_le h]
    · rw [Nat.min_eq_right (by omega)]
  rw [ht]
  have hlen : (l.take 300).length ≤ 300 := by rw [List.length_take]; omega
  exact of_l (l.take 300) hlen _ 0 k ⟨0, 0⟩ rfl (by omega) (by omega) ci_zero
theorem Shift_f {s : Cx} {a b : Int} (hs : CI s a b) (ha : a.natAbs < 2 ^ 50) (hb : b.natAbs < 2 ^ 50) (n : Int) (k : Int) : ∃ s', drift_Drift_Shift.f s n k = some (s', n) ∧ CI s' (a * cre k - b * cim k) (a * cim k + b * cre k) := by
  obtain ⟨h1, h2⟩ := ci_turned hs ha hb k
  refine ⟨_, ?_, h2⟩
  simp only [drift_Drift_Shift.f, drift_Turn.f, Option.bind_some]
  rw [if_pos h1]
theorem DriftTurns : sluicewaylaw06_DriftTurns.Pure := by
  intro l A0 B0 _ _ _ _ _
  refine ⟨301, ?_⟩
  have hsh : sluicewaylaw06_shown.f 301 = some true := shown_f 297
  obtain ⟨s, e0, c0⟩ := of_f l 301 (by omega)
  have hlen : (l.take 300).length ≤ 300 := by rw [List.length_take]; omega
  have hB := sre_le (l.take 300)
  generalize l.take 300 = m at *
  generalize sre m = X at *
  generalize sim m = Y at *
  have hX : -300 ≤ X ∧ X ≤ 300 := by omega
  have hY : -300 ≤ Y ∧ Y ≤ 300 := by omega
  unfold sluicewaylaw06_DriftTurns.f
  rw [hsh, e0, mask16, mask16]
  have hA : 0 ≤ A0 % 65536 ∧ A0 % 65536 < 65536 := by omega
  have hBB : 0 ≤ B0 % 65536 ∧ B0 % 65536 < 65536 := by omega
  generalize A0 % 65536 = A at *
  generalize B0 % 65536 = B at *
  rw [wrap64_in (A + B) (by omega), wrap64_in (-A) (by omega), wrap64_in (4 * A) (by omega)]
  generalize (m.length : Int) = n at *
  obtain ⟨s1, e1, c1⟩ := Shift_f c0 (by omega) (by omega) n A
  have b1 := rot_le hX hY A
  obtain ⟨s2, e2, c2⟩ := Shift_f c1 (by omega) (by omega) n B
  obtain ⟨s3, e3, c3⟩ := Shift_f c0 (by omega) (by omega) n (A + B)
  obtain ⟨z1, f1, d1⟩ := Shift_f c0 (by omega) (by omega) n 1
  have i1 := rot_le hX hY 1
  obtain ⟨z2, f2, d2⟩ := Shift_f d1 (by omega) (by omega) n 1
  have i2 := rot_le i1.1 i1.2 1
  obtain ⟨z3, f3, d3⟩ := Shift_f d2 (by omega) (by omega) n 1
  have i3 := rot_le i2.1 i2.2 1
  obtain ⟨z4, f4, d4⟩ := Shift_f d3 (by omega) (by omega) n 1
  obtain ⟨s5, e5, c5⟩ := Shift_f c1 (by omega) (by omega) n (-A)
  obtain ⟨s6, e6, c6⟩ := Shift_f c0 (by omega) (by omega) n (4 * A)
  have hcA := cre_le A
  have hsA := cim_le A
  obtain ⟨e7, c7⟩ := ci_turned (ci_turn A) (by omega) (by omega) B
  have q1 := ceq c2 c3
  have q2 := ceq d4 c0
  have q3 := ceq c5 c0
  have q4 := ceq c6 c0
  have q5 := ceq c7 (ci_turn (A + B))
  rw [decide_eq_true (by
    rw [cre_add, cim_add]
    rcases turn_cases A with ⟨_, h1, h2, _⟩ | ⟨_, h1, h2, _⟩ | ⟨_, h1, h2, _⟩ | ⟨_, h1, h2, _⟩ <;>
    rcases turn_cases B with ⟨_, g1, g2, _⟩ | ⟨_, g1, g2, _⟩ | ⟨_, g1, g2, _⟩ | ⟨_, g1, g2, _⟩ <;>
    rw [h1, h2, g1, g2] <;> omega)] at q1
  rw [decide_eq_true (by
    rw [show cre 1 = 0 from rfl, show cim 1 = 1 from rfl]; omega)] at q2
  rw [decide_eq_true (by
    rw [cre_neg, cim_neg]
    rcases turn_cases A with ⟨_, h1, h2, _⟩ | ⟨_, h1, h2, _⟩ | ⟨_, h1, h2, _⟩ | ⟨_, h1, h2, _⟩ <;>
    rw [h1, h2] <;> omega)] at q3
  rw [decide_eq_true (by rw [cre_four, cim_four]; omega)] at q4
  rw [decide_eq_true (by rw [cre_add, cim_add]; exact ⟨rfl, rfl⟩)] at q5
  simp only [Option.bind_some, e1, e2, e3, f1, f2, f3, f4, q1, q2, e5, q3, e6, q4, drift_Turn.f, e7, q5, if_true]

end Go.Proofs.Ytnlcgibbonbniaa.Pure
