import Derived.Test.YtnlcgibbonbniaaDr
import Derived.Test.YtnlcgibbonbniaaGDriftOrderx2
namespace Go.Proofs.Ytnlcgibbonbniaa.Pure
open Go.RowKit Go.Proofs.Ytnlcgibbonbniaa Go.Proofs.Ytnlcgibbonbniaa.GDriftOrder Go.Proofs.YtnlcgibbonbniaaW.PrintWords Go.Proofs.YtnlcgibbonbniaaW.PrintLast Go.Proofs.DriftFloat
set_option linter.unusedVariables false

theorem along_f {s : Cx} {a b : Int} (hs : CI s a b) (ha : a.natAbs < 2 ^ 50) (hb : b.natAbs < 2 ^ 50) (n k : Int) : ∃ f, drift_Drift_along.f s n k = some f ∧ FI f (al a b k) := by
  obtain ⟨h1, h2⟩ := ci_along hs ha hb k
  refine ⟨_, ?_, h2⟩
  simp only [drift_Drift_along.f, drift_Turn.f, Option.bind_some]
  rw [if_pos h1]
theorem best_step {s : Cx} {a b : Int} (hs : CI s a b) (ha : a.natAbs < 2 ^ 50) (hb : b.natAbs < 2 ^ 50) (n : Int) (k : Nat) (p : Int × Int) (f : Nat) (hf : FI f p.2) (i : Int) (h0 : 0 ≤ i) (hi : i < 4) :
    ∃ f', drift_Drift_best.l0 (k + 1) p.1 f i s n = drift_Drift_best.l0 k (up p i (al a b i)).1 f' (i + 1) s n ∧ FI f' (up p i (al a b i)).2 := by
  obtain ⟨g, e, hg⟩ := along_f hs ha hb n i
  rw [drift_Drift_best.l0, if_pos hi, e]
  simp only [Option.bind_some]
  rw [fgt hg hf, wrap64_in (i + 1) (by omega)]
  by_cases hc : al a b i > p.2
  · exact ⟨g, by simp [up, hc], by simpa [up, hc] using hg⟩
  · exact ⟨f, by simp [up, hc], by simpa [up, hc] using hf⟩
theorem best_f {s : Cx} {a b : Int} (hs : CI s a b) (ha : a.natAbs < 2 ^ 50) (hb : b.natAbs < 2 ^ 50) (n : Int) (k : Nat) : ∃ f, drift_Drift_best.f (k + 4) s n = some ((bst a b).1, f) ∧ FI f (bst a b).2 := by
  obtain ⟨f0, e0, h0⟩ := along_f hs ha hb n 0
  rw [al0] at h0
  obtain ⟨f1, e1, h1⟩ := best_step hs ha hb n (k + 3) (0, a) f0 h0 1 (by decide) (by decide)
  obtain ⟨f2, e2, h2⟩ := best_step hs ha hb n (k + 2) _ f1 h1 2 (by decide) (by decide)
  obtain ⟨f3, e3, h3⟩ := best_step hs ha hb n (k + 1) _ f2 h2 3 (by decide) (by decide)
  rw [al1] at e1; rw [al1, al2] at e2; rw [al1, al2, al3] at e3 h3
  refine ⟨f3, ?_, h3⟩
  unfold drift_Drift_best.f
  rw [e0]
  simp only [Option.bind_some]
  refine e1.trans (e2.trans (e3.trans ?_))
  rw [drift_Drift_best.l0, if_neg (by decide)]
  rfl
theorem Lean_f {s : Cx} {a b : Int} (hs : CI s a b) (ha : a.natAbs < 2 ^ 50) (hb : b.natAbs < 2 ^ 50) (n : Int) (k : Nat) : drift_Drift_Lean.f (k + 4) s n = some (if a = 0 ∧ b = 0 then (0, false) else ((bst a b).1, true)) := by
  obtain ⟨f, e, h⟩ := best_f hs ha hb n k
  unfold drift_Drift_Lean.f
  rw [e]
  simp only [Option.bind_some]
  have := ceq hs ci_zero
  rw [this]
  by_cases hc : a = 0 ∧ b = 0
  · simp [hc]
  · simp [hc]
theorem Spread_f {s : Cx} {a b : Int} (hs : CI s a b) (ha : a.natAbs < 2 ^ 50) (hb : b.natAbs < 2 ^ 50) (n : Int) (hn : n.natAbs < 2 ^ 50) (k : Nat) : drift_Drift_Spread.f (k + 4) s n = some (n - (bst a b).2) := by
  obtain ⟨f, e, h⟩ := best_f hs ha hb n k
  have hle : (bst a b).2.natAbs < 2 ^ 50 := by
    obtain ⟨⟨h1, h2⟩, h3, _⟩ := bst_spec a b
    have h4 : (bst a b).1 = 0 ∨ (bst a b).1 = 1 ∨ (bst a b).1 = 2 ∨ (bst a b).1 = 3 := by omega
    rcases h4 with h4 | h4 | h4 | h4 <;> rw [h4] at h3 <;> simp only [al0, al1, al2, al3] at h3 <;> omega
  obtain ⟨h1, h2⟩ := f2i_fi h (by omega)
  unfold drift_Drift_Spread.f
  rw [e]
  simp only [Option.bind_some]
  rw [if_pos h1, h2, wrap64_in _ (by omega)]
theorem Add_f {s : Cx} {a b : Int} (hs : CI s a b) (ha : a.natAbs < 2 ^ 50) (hb : b.natAbs < 2 ^ 50) (n : Int) (hn : n.natAbs < 2 ^ 50) (k : Int) : ∃ s', drift_Drift_Add.f s n k = some (s', n + 1) ∧ CI s' (a + cre k) (b + cim k) := by
  have h1 := cre_le k; have h2 := cim_le k
  obtain ⟨h3, h4⟩ := ci_add hs (ci_turn k) (by omega) (by omega)
  refine ⟨_, ?_, h4⟩
  simp only [drift_Drift_Add.f, drift_Turn.f, Option.bind_some]
  rw [if_pos h3, wrap64_in _ (by omega)]
theorem shown_f (k : Nat) : sluicewaylaw06_shown.f (k + 4) = some true := by
  obtain ⟨s1, e1, c1⟩ := Add_f ci_zero (by decide) (by decide) 0 (by decide) 1
  have c1' : CI s1 0 1 := c1
  obtain ⟨s2, e2, c2⟩ := Add_f c1' (by decide) (by decide) (0 + 1) (by decide) 1
  have c2' : CI s2 0 2 := c2
  obtain ⟨s3, e3, c3⟩ := Add_f c2' (by decide) (by decide) (0 + 1 + 1) (by decide) 2
  have c3' : CI s3 (-1) 2 := c3
  have e4 := Lean_f c3' (by decide) (by decide) (0 + 1 + 1 + 1) k
  have e5 := Spread_f c3' (by decide) (by decide) (0 + 1 + 1 + 1) (by decide) k
  have e6 : (FloatKind.f64.format.order s3.re 13830554455654793216 == some .eq) = true := by rw [feq c3'.1 fi_none]; rfl
  have e7 : (FloatKind.f64.format.order s3.im 4611686018427387904 == some .eq) = true := by rw [feq c3'.2 fi_two]; rfl
  have e8 : (FloatKind.f64.format.order (turn 3).re 0 == some .eq && FloatKind.f64.format.order (turn 3).im 13830554455654793216 == some .eq) = true := by
    have := ceq (x := turn 3) (y := ⟨0, 13830554455654793216⟩) (ci_turn 3) ⟨fi_zero, fi_none⟩
    rw [this]; rfl
  unfold sluicewaylaw06_shown.f
  simp only [e1, e2, e3, e4, e5, drift_Turn.f, Option.bind_some]
  rw [e6, e7, e8]
  rfl
theorem of_l (l : List Int) (hl : l.length ≤ 300) : ∀ (r : Nat) (i : Nat) (k : Nat) (s : Cx), l.length - i = r → i ≤ l.length → r < k → CI s (sre (l.take i)) (sim (l.take i)) →
    ∃ s', sluicewaylaw06_of.l0 k l i s i = some (s', (l.length : Int), l) ∧ CI s' (sre l) (sim l) := by
  intro r
  induction r with
  | zero =>
    intro i k s hr hi hk hs
    have hil : i = l.length := by omega
    obtain ⟨k, rfl⟩ : ∃ k', k = k' + 1 := ⟨k - 1, by omega⟩
    subst hil
    rw [List.take_length] at hs
    exact ⟨s, by rw [sluicewaylaw06_of.l0, if_neg (by omega)], hs⟩
  | succ r ih =>
    intro i k s hr hi hk hs
    obtain ⟨k, rfl⟩ : ∃ k', k = k' + 1 := ⟨k - 1, by omega⟩
    have hlt : i < l.length := by omega
    have hb := sre_le (l.take i)
    rw [List.length_take] at hb
    obtain ⟨s', e, c⟩ := Add_f hs (by omega) (by omega) i (by omega) (rd l i)
    have hrd : rd l i = l[i] := by simp [rd, List.getD, hlt]
    have ht : l.take (i + 1) = l.take i ++ [l[i]] := by rw [List.take_succ_eq_append_getElem hlt]
    rw [sluicewaylaw06_of.l0, if_pos (by omega), if_pos (by omega), e]
    simp only [Option.bind_some]
    rw [wrap64_in _ (by omega)]
    rw [hrd, ← sre_snoc, ← sim_snoc, ← ht] at c
    have := ih (i + 1) k s' (by omega) (by omega) (by omega) c
    rw [show ((i + 1 : Nat) : Int) = (i : Int) + 1 by omega] at this
    exact this
theorem of_f (l : List Int) (k : Nat) (hk : 301 ≤ k) : ∃ s, sluicewaylaw06_of.f k l = some (s, ((l.take 300).length : Int), l.take 300) ∧ CI s (sre (l.take 300)) (sim (l.take 300)) := by
  have hm : mn (l.length : Int) 300 = ((min l.length 300 : Nat) : Int) := by unfold mn; split <;> omega
  unfold sluicewaylaw06_of.f
  rw [hm, if_pos (by omega), if_pos (by omega)]
  have ht : l.take ((((min l.length 300 : Nat) : Int))).toNat = l.take 300 := by
    rw [Int.toNat_natCast]
    by_cases h : l.length ≤ 300
    · rw [Nat.min_eq_left h, List.take_length, List.take_of_length_le h]
    · rw [Nat.min_eq_right (by omega)]
  rw [ht]
  have hlen : (l.take 300).length ≤ 300 := by rw [List.length_take]; omega
  exact of_l (l.take 300) hlen _ 0 k ⟨0, 0⟩ rfl (by omega) (by omega) ci_zero
theorem Join_f {s t : Cx} {a b c d : Int} (hs : CI s a b) (ht : CI t c d) (h1 : (a + c).natAbs < 2 ^ 50) (h2 : (b + d).natAbs < 2 ^ 50) (m n : Int) (hn : (m + n).natAbs < 2 ^ 50) : ∃ s', drift_Drift_Join.f s m t n = some (s', m + n) ∧ CI s' (a + c) (b + d) := by
  obtain ⟨h3, h4⟩ := ci_add hs ht (by omega) (by omega)
  refine ⟨_, ?_, h4⟩
  simp only [drift_Drift_Join.f]
  rw [if_pos h3, wrap64_in _ (by omega)]
theorem l1_f (m : List Int) (hl : m.length ≤ 300) {s t u : Cx} {X1 Y1 X2 Y2 : Int} (n1 : Int) (hs : CI s X1 Y1) (ht : CI t X2 Y2) (hu : CI u X1 Y1) (b1 : -300 ≤ X1 ∧ X1 ≤ 300) (b2 : -300 ≤ Y1 ∧ Y1 ≤ 300) (b3 : 0 ≤ n1 ∧ n1 ≤ 300)
    (hX : sre m = X2) (hY : sim m = Y2) : ∀ (r i k : Nat) (v : Cx), m.length - i = r → i ≤ m.length → r < k → CI v (X1 + sre (m.take i)) (Y1 + sim (m.take i)) →
    sluicewaylaw06_DriftOrder.l1 k m true i s n1 t (m.length : Int) u n1 v (n1 + i) = some true := by
  have hB := sre_le m
  intro r
  induction r with
  | zero =>
    intro i k v hr hi hk hv
    have hil : i = m.length := by omega
    obtain ⟨k, rfl⟩ : ∃ k', k = k' + 1 := ⟨k - 1, by omega⟩
    subst hil
    rw [List.take_length, hX, hY] at hv
    obtain ⟨j1, e1, c1⟩ := Join_f hs ht (by omega) (by omega) n1 m.length (by omega)
    obtain ⟨j2, e2, c2⟩ := Join_f ht hs (by omega) (by omega) m.length n1 (by omega)
    have q1 := ceq hu hs
    have q2 := ceq c1 hv
    have q3 := ceq c2 hv
    rw [decide_eq_true ⟨rfl, rfl⟩] at q1 q2
    rw [decide_eq_true (by omega)] at q3
    rw [sluicewaylaw06_DriftOrder.l1, if_neg (by omega)]
    simp only [q1, q2, q3, e1, e2, Option.bind_some, if_true, beq_self_eq_true]
  | succ r ih =>
    intro i k v hr hi hk hv
    obtain ⟨k, rfl⟩ : ∃ k', k = k' + 1 := ⟨k - 1, by omega⟩
    have hlt : i < m.length := by omega
    have hb := sre_le (m.take i)
    rw [List.length_take] at hb
    obtain ⟨s', e, c⟩ := Add_f hv (by omega) (by omega) (n1 + i) (by omega) (rd m i)
    have hrd : rd m i = m[i] := by simp [rd, List.getD, hlt]
    have ht : m.take (i + 1) = m.take i ++ [m[i]] := by rw [List.take_succ_eq_append_getElem hlt]
    rw [sluicewaylaw06_DriftOrder.l1, if_pos (by omega), if_pos (by omega), e]
    simp only [Option.bind_some]
    rw [wrap64_in _ (by omega)]
    rw [hrd, Int.add_assoc, Int.add_assoc, ← sre_snoc, ← sim_snoc, ← ht] at c
    have := ih (i + 1) k s' (by omega) (by omega) (by omega) c
    rw [show ((i + 1 : Nat) : Int) = (i : Int) + 1 by omega, ← Int.add_assoc] at this
    exact this
theorem l0_f (m n : List Int) (hl : m.length ≤ 300) (hn : n.length ≤ 300) {s t : Cx} {X1 Y1 X2 Y2 : Int} (hs : CI s X1 Y1) (ht : CI t X2 Y2) (hX : sre m = X1) (hY : sim m = Y1) (hX2 : sre n = X2) (hY2 : sim n = Y2) :
    ∀ (i k : Nat) (v : Cx), i ≤ m.length → i + 301 < k → CI v (sre (m.drop i)) (sim (m.drop i)) →
    sluicewaylaw06_DriftOrder.l0 k m n true ((i : Int) - 1) s m.length t (n.length : Int) v ((m.length : Int) - i) = some true := by
  have hB := sre_le m
  intro i
  induction i with
  | zero =>
    intro k v hi hk hv
    obtain ⟨k, rfl⟩ : ∃ k', k = k' + 1 := ⟨k - 1, by omega⟩
    rw [List.drop_zero, hX, hY] at hv
    rw [sluicewaylaw06_DriftOrder.l0, if_neg (by omega)]
    have := l1_f n hn (s := s) (t := t) (u := v) m.length hs ht hv (by omega) (by omega) (by omega) hX2 hY2 _ 0 k s rfl (by omega) (by omega) (by
      have e1 : X1 + sre (List.take 0 n) = X1 := by simp [sre]
      have e2 : Y1 + sim (List.take 0 n) = Y1 := by simp [sim]
      rw [e1, e2]; exact hs)
    rw [show (m.length : Int) - ((0 : Nat) : Int) = m.length by omega]
    rw [show (m.length : Int) + ((0 : Nat) : Int) = m.length by omega] at this
    exact this
  | succ i ih =>
    intro k v hi hk hv
    obtain ⟨k, rfl⟩ : ∃ k', k = k' + 1 := ⟨k - 1, by omega⟩
    have hlt : i < m.length := by omega
    have hb := sre_le (m.drop (i + 1))
    rw [List.length_drop] at hb
    obtain ⟨s', e, c⟩ := Add_f hv (by omega) (by omega) ((m.length : Int) - ((i + 1 : Nat) : Int)) (by omega) (rd m i)
    have hrd : rd m i = m[i] := by simp [rd, List.getD, hlt]
    have hd : m.drop i = m[i] :: m.drop (i + 1) := by rw [List.drop_eq_getElem_cons hlt]
    rw [show ((i + 1 : Nat) : Int) - 1 = (i : Int) by omega]
    rw [sluicewaylaw06_DriftOrder.l0, if_pos (by omega), if_pos (by omega), if_pos (by omega), e]
    simp only [Option.bind_some]
    rw [wrap64_in _ (by omega)]
    have c' : CI s' (sre (m.drop i)) (sim (m.drop i)) := by
      have e1 : sre (m.drop i) = sre (m.drop (i + 1)) + cre (rd m i) := by rw [hrd, hd]; simp only [sre, List.map_cons, List.sum_cons]; omega
      have e2 : sim (m.drop i) = sim (m.drop (i + 1)) + cim (rd m i) := by rw [hrd, hd]; simp only [sim, List.map_cons, List.sum_cons]; omega
      rw [e1, e2]; exact c
    have := ih k s' (by omega) (by omega) c'
    rw [show (m.length : Int) - (i : Int) = (m.length : Int) - ((i + 1 : Nat) : Int) + 1 by omega] at this
    exact this
theorem DriftOrder : sluicewaylaw06_DriftOrder.Pure := by
  intro l n _ _ _ _ _ _
  refine ⟨1000, ?_⟩
  have hsh : sluicewaylaw06_shown.f 1000 = some true := shown_f 996
  obtain ⟨s, e0, c0⟩ := of_f l 1000 (by omega)
  obtain ⟨t, e1, c1⟩ := of_f n 1000 (by omega)
  have hlen : (l.take 300).length ≤ 300 := by rw [List.length_take]; omega
  have hlen1 : (n.take 300).length ≤ 300 := by rw [List.length_take]; omega
  unfold sluicewaylaw06_DriftOrder.f
  rw [hsh, e0, e1]
  simp only [Option.bind_some]
  rw [wrap64_in _ (by omega)]
  generalize l.take 300 = m at *
  generalize n.take 300 = m2 at *
  have := l0_f m m2 hlen hlen1 c0 c1 rfl rfl rfl rfl m.length 1000 ⟨0, 0⟩ (by omega) (by omega) (by
    rw [List.drop_length]; exact ci_zero)
  rw [show (m.length : Int) - (m.length : Int) = 0 by omega] at this
  exact this

end Go.Proofs.Ytnlcgibbonbniaa.Pure
