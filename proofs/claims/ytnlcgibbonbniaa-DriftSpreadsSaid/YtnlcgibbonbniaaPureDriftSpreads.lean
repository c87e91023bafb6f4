import Derived.Test.YtnlcgibbonbniaaDr
import Derived.Test.YtnlcgibbonbniaaGDriftSpreadsx2
namespace Go.Proofs.Ytnlcgibbonbniaa.Pure
open Go.RowKit Go.Proofs.Ytnlcgibbonbniaa Go.Proofs.Ytnlcgibbonbniaa.GDriftSpreads Go.Proofs.YtnlcgibbonbniaaW.PrintWords Go.Proofs.YtnlcgibbonbniaaW.PrintLast Go.Proofs.DriftFloat
set_option linter.unusedVariables false

theorem along_f {s : Cx} {a b : Int} (hs : CI s a b) (ha : a.natAbs < 2 ^ 50) (hb : b.natAbs < 2 ^ 50) (n k : Int) : ∃ f, drift_Drift_along.f s n k = some f ∧ FI f (al a b k) := by
  obtain ⟨h1, h2⟩ := ci_along hs ha hb k
  refine ⟨_, ?_, h2⟩
  simp only [drift_Drift_along.f, drift_Turn.f, Option.bind_some]
  rw [if_pos h1]
theorem best_step {s : Cx} {a b : Int} (hs : CI s a b) (ha : a.natAbs < 2 ^ 50) (hb : b.natAbs < 2 ^ 50) (n : Int) (k : Nat) (p : Int × Int) (f : Nat) (hf : FI f p.2) (i : Int) (h0 : 0 ≤ i) (hi : i < 4) :
    ∃ f', drift_Drift_best.l0 (k + 1) p.1 f i s n = drift_Drift_best.l0 k (up p i (al a b i)).1 f' (i + 1) s n ∧ FI f' (up p i (al a b i)).2 := by
  obtain ⟨g, e, hg⟩ := along_f hs ha hb n i
  rw [drift_Drift_best.l0, if_pos hi, e]
  simp only [Option.bind_some]
  rw [fgt hg hf, wrap64_in (i + 1) (by omega)]
  by_cases hc : al a b i > p.2
  · exact ⟨g, by simp [up, hc], by simpa [up, hc] using hg⟩
  · exact ⟨f, by simp [up, hc], by simpa [up, hc] using hf⟩
theorem best_f {s : Cx} {a b : Int} (hs : CI s a b) (ha : a.natAbs < 2 ^ 50) (hb : b.natAbs < 2 ^ 50) (n : Int) (k : Nat) : ∃ f, drift_Drift_best.f (k + 4) s n = some ((bst a b).1, f) ∧ FI f (bst a b).2 := by
  obtain ⟨f0, e0, h0⟩ := along_f hs ha hb n 0
  rw [al0] at h0
  obtain ⟨f1, e1, h1⟩ := best_step hs ha hb n (k + 3) (0, a) f0 h0 1 (by decide) (by decide)
  obtain ⟨f2, e2, h2⟩ := best_step hs ha hb n (k + 2) _ f1 h1 2 (by decide) (by decide)
  obtain ⟨f3, e3, h3⟩ := best_step hs ha hb n (k + 1) _ f2 h2 3 (by decide) (by decide)
  rw [al1] at e1; rw [al1, al2] at e2; rw [al1, al2, al3] at e3 h3
  refine ⟨f3, ?_, h3⟩
  unfold drift_Drift_best.f
  rw [e0]
  simp only [Option.bind_some]
  refine e1.trans (e2.trans (e3.trans ?_))
  rw [drift_Drift_best.l0, if_neg (by decide)]
  rfl
theorem Lean_f {s : Cx} {a b : Int} (hs : CI s a b) (ha : a.natAbs < 2 ^ 50) (hb : b.natAbs < 2 ^ 50) (n : Int) (k : Nat) : drift_Drift_Lean.f (k + 4) s n = some (if a = 0 ∧ b = 0 then (0, false) else ((bst a b).1, true)) := by
  obtain ⟨f, e, h⟩ := best_f hs ha hb n k
  unfold drift_Drift_Lean.f
  rw [e]
  simp only [Option.bind_some]
  have := ceq hs ci_zero
  rw [this]
  by_cases hc : a = 0 ∧ b = 0
  · simp [hc]
  · simp [hc]
theorem Spread_f {s : Cx} {a b : Int} (hs : CI s a b) (ha : a.natAbs < 2 ^ 50) (hb : b.natAbs < 2 ^ 50) (n : Int) (hn : n.natAbs < 2 ^ 50) (k : Nat) : drift_Drift_Spread.f (k + 4) s n = some (n - (bst a b).2) := by
  obtain ⟨f, e, h⟩ := best_f hs ha hb n k
  have hle : (bst a b).2.natAbs < 2 ^ 50 := by
    obtain ⟨⟨h1, h2⟩, h3, _⟩ := bst_spec a b
    have h4 : (bst a b).1 = 0 ∨ (bst a b).1 = 1 ∨ (bst a b).1 = 2 ∨ (bst a b).1 = 3 := by omega
    rcases h4 with h4 | h4 | h4 | h4 <;> rw [h4] at h3 <;> simp only [al0, al1, al2, al3] at h3 <;> omega
  obtain ⟨h1, h2⟩ := f2i_fi h (by omega)
  unfold drift_Drift_Spread.f
  rw [e]
  simp only [Option.bind_some]
  rw [if_pos h1, h2, wrap64_in _ (by omega)]
theorem Add_f {s : Cx} {a b : Int} (hs : CI s a b) (ha : a.natAbs < 2 ^ 50) (hb : b.natAbs < 2 ^ 50) (n : Int) (hn : n.natAbs < 2 ^ 50) (k : Int) : ∃ s', drift_Drift_Add.f s n k = some (s', n + 1) ∧ CI s' (a + cre k) (b + cim k) := by
  have h1 := cre_le k; have h2 := cim_le k
  obtain ⟨h3, h4⟩ := ci_add hs (ci_turn k) (by omega) (by omega)
  refine ⟨_, ?_, h4⟩
  simp only [drift_Drift_Add.f, drift_Turn.f, Option.bind_some]
  rw [if_pos h3, wrap64_in _ (by omega)]
theorem shown_f (k : Nat) : sluicewaylaw06_shown.f (k + 4) = some true := by
  obtain ⟨s1, e1, c1⟩ := Add_f ci_zero (by decide) (by decide) 0 (by decide) 1
  have c1' : CI s1 0 1 := c1
  obtain ⟨s2, e2, c2⟩ := Add_f c1' (by decide) (by decide) (0 + 1) (by decide) 1
  have c2' : CI s2 0 2 := c2
  obtain ⟨s3, e3, c3⟩ := Add_f c2' (by decide) (by decide) (0 + 1 + 1) (by decide) 2
  have c3' : CI s3 (-1) 2 := c3
  have e4 := Lean_f c3' (by decide) (by decide) (0 + 1 + 1 + 1) k
  have e5 := Spread_f c3' (by decide) (by decide) (0 + 1 + 1 + 1) (by decide) k
  have e6 : (FloatKind.f64.format.order s3.re 13830554455654793216 == some .eq) = true := by rw [feq c3'.1 fi_none]; rfl
  have e7 : (FloatKind.f64.format.order s3.im 4611686018427387904 == some .eq) = true := by rw [feq c3'.2 fi_two]; rfl
  have e8 : (FloatKind.f64.format.order (turn 3).re 0 == some .eq && FloatKind.f64.format.order (turn 3).im 13830554455654793216 == some .eq) = true := by
    have := ceq (x := turn 3) (y := ⟨0, 13830554455654793216⟩) (ci_turn 3) ⟨fi_zero, fi_none⟩
    rw [this]; rfl
  unfold sluicewaylaw06_shown.f
  simp only [e1, e2, e3, e4, e5, drift_Turn.f, Option.bind_some]
  rw [e6, e7, e8]
  rfl
theorem of_l (l : List Int) (hl : l.length ≤ 300) : ∀ (r : Nat) (i : Nat) (k : Nat) (s : Cx), l.length - i = r → i ≤ l.length → r < k → CI s (sre (l.take i)) (sim (l.take i)) →
    ∃ s', sluicewaylaw06_of.l0 k l i s i = some (s', (l.length : Int), l) ∧ CI s' (sre l) (sim l) := by
  intro r
  induction r with
  | zero =>
    intro i k s hr hi hk hs
    have hil : i = l.length := by omega
    obtain ⟨k, rfl⟩ : ∃ k', k = k' + 1 := ⟨k - 1, by omega⟩
    subst hil
    rw [List.take_length] at hs
    exact ⟨s, by rw [sluicewaylaw06_of.l0, if_neg (by omega)], hs⟩
  | succ r ih =>
    intro i k s hr hi hk hs
    obtain ⟨k, rfl⟩ : ∃ k', k = k' + 1 := ⟨k - 1, by omega⟩
    have hlt : i < l.length := by omega
    have hb := sre_le (l.take i)
    rw [List.length_take] at hb
    obtain ⟨s', e, c⟩ := Add_f hs (by omega) (by omega) i (by omega) (rd l i)
    have hrd : rd l i = l[i] := by simp [rd, List.getD, hlt]
    have ht : l.take (i + 1) = l.take i ++ [l[i]] := by rw [List.take_succ_eq_append_getElem hlt]
    rw [sluicewaylaw06_of.l0, if_pos (by omega), if_pos (by omega), e]
    simp only [Option.bind_some]
    rw [wrap64_in _ (by omega)]
    rw [hrd, ← sre_snoc, ← sim_snoc, ← ht] at c
    have := ih (i + 1) k s' (by omega) (by omega) (by omega) c
    rw [show ((i + 1 : Nat) : Int) = (i : Int) + 1 by omega] at this
    exact this
theorem of_f (l : List Int) (k : Nat) (hk : 301 ≤ k) : ∃ s, sluicewaylaw06_of.f k l = some (s, ((l.take 300).length : Int), l.take 300) ∧ CI s (sre (l.take 300)) (sim (l.take 300)) := by
  have hm : mn (l.length : Int) 300 = ((min l.length 300 : Nat) : Int) := by unfold mn; split <;> omega
  unfold sluicewaylaw06_of.f
  rw [hm, if_pos (by omega), if_pos (by omega)]
  have ht : l.take ((((min l.length 300 : Nat) : Int))).toNat = l.take 300 := by
    rw [Int.toNat_natCast]
    by_cases h : l.length ≤ 300
    · rw [Nat.min_eq_left h, List.take_length, List.take_of_length_le h]
    · rw [Nat.min_eq_right (by omega)]
  rw [ht]
  have hlen : (l.take 300).length ≤ 300 := by rw [List.length_take]; omega
  exact of_l (l.take 300) hlen _ 0 k ⟨0, 0⟩ rfl (by omega) (by omega) ci_zero
theorem Mod_f (k : Int) : sluicewayref06_Mod.f k = some (k % 4) := by
  unfold sluicewayref06_Mod.f
  have h1 : -4 < Int.tmod k 4 ∧ Int.tmod k 4 < 4 := ⟨by have := Int.lt_tmod_of_pos k (b := 4) (by decide); omega, Int.tmod_lt_of_pos k (by decide)⟩
  rw [wrap64_in _ (by omega)]
  congr 1
  rw [Int.tmod_eq_emod_of_nonneg (by omega)]
  have h2 : (Int.tmod k 4 + 4) % 4 = Int.tmod k 4 % 4 := by omega
  rw [h2]
  have h3 : k = 4 * Int.tdiv k 4 + Int.tmod k 4 := by rw [Int.mul_tdiv_add_tmod]
  omega
theorem sre_eq (l : List Int) : (sre l = l.length → ∀ x ∈ l, x % 4 = 0) ∧ (sre l = -l.length → ∀ x ∈ l, x % 4 = 2) ∧ (sim l = l.length → ∀ x ∈ l, x % 4 = 1) ∧ (sim l = -l.length → ∀ x ∈ l, x % 4 = 3) := by
  induction l with
  | nil => simp
  | cons y l ih =>
    have hb := sre_le l
    have h1 := turn_cases y
    have e1 : sre (y :: l) = cre y + sre l := by simp [sre]
    have e2 : sim (y :: l) = cim y + sim l := by simp [sim]
    have e3 : ((y :: l).length : Int) = l.length + 1 := by simp
    rw [e1, e2, e3]
    simp only [List.mem_cons, forall_eq_or_imp]
    refine ⟨fun h => ⟨?_, ih.1 ?_⟩, fun h => ⟨?_, ih.2.1 ?_⟩, fun h => ⟨?_, ih.2.2.1 ?_⟩, fun h => ⟨?_, ih.2.2.2 ?_⟩⟩ <;> omega
theorem all_eq (l : List Int) (c : Int) (h : ∀ x ∈ l, x % 4 = c % 4) : sre l = l.length * cre c ∧ sim l = l.length * cim c := by
  induction l with
  | nil => simp [sre, sim]
  | cons y l ih =>
    have hy : y % 4 = c % 4 := h y (by simp)
    obtain ⟨h1, h2⟩ := ih (fun x hx => h x (by simp [hx]))
    have e1 : sre (y :: l) = cre y + sre l := by simp [sre]
    have e2 : sim (y :: l) = cim y + sim l := by simp [sim]
    have e3 : ((y :: l).length : Int) = l.length + 1 := by simp
    have e4 : cre y = cre c := by unfold cre; rw [hy]
    have e5 : cim y = cim c := by unfold cim; rw [hy]
    rw [e1, e2, e3, h1, h2, e4, e5, Int.add_mul, Int.add_mul]
    omega
def one (m : List Int) (i : Nat) : Bool := (m.take i).all (fun x => x % 4 == (rd m 0) % 4)
theorem bst_cases (a b : Int) : ((bst a b).1 = 0 ∧ (bst a b).2 = a ∨ (bst a b).1 = 1 ∧ (bst a b).2 = b ∨ (bst a b).1 = 2 ∧ (bst a b).2 = -a ∨ (bst a b).1 = 3 ∧ (bst a b).2 = -b) ∧ a ≤ (bst a b).2 ∧ b ≤ (bst a b).2 ∧ -a ≤ (bst a b).2 ∧ -b ≤ (bst a b).2 := by
  obtain ⟨h1, h2, h3⟩ := bst_spec a b
  refine ⟨?_, h3⟩
  have h4 : (bst a b).1 = 0 ∨ (bst a b).1 = 1 ∨ (bst a b).1 = 2 ∨ (bst a b).1 = 3 := by omega
  rcases h4 with h4 | h4 | h4 | h4 <;> rw [h4] at h2 ⊢ <;> simp only [al0, al1, al2, al3] at h2 <;> omega
theorem one_all (m : List Int) : m.all (fun x => x % 4 == (rd m 0) % 4) = ((m.length : Int) - (bst (sre m) (sim m)).2 == 0) := by
  have hb := sre_le m
  obtain ⟨h1, h2⟩ := bst_cases (sre m) (sim m)
  rw [Bool.eq_iff_iff]
  simp only [List.all_eq_true, beq_iff_eq]
  constructor
  · intro h
    obtain ⟨e1, e2⟩ := all_eq m _ h
    rcases turn_cases (rd m 0) with ⟨_, g1, g2, _⟩ | ⟨_, g1, g2, _⟩ | ⟨_, g1, g2, _⟩ | ⟨_, g1, g2, _⟩ <;> rw [g1] at e1 <;> rw [g2] at e2 <;> omega
  · intro h x hx
    obtain ⟨s0, s2, s1, s3⟩ := sre_eq m
    have h0 : rd m 0 ∈ m := by
      cases m with
      | nil => simp at hx
      | cons y l => simp [rd]
    rcases h1 with ⟨_, h1⟩ | ⟨_, h1⟩ | ⟨_, h1⟩ | ⟨_, h1⟩
    · have := s0 (by omega); rw [this x hx, this _ h0]
    · have := s1 (by omega); rw [this x hx, this _ h0]
    · have := s2 (by omega); rw [this x hx, this _ h0]
    · have := s3 (by omega); rw [this x hx, this _ h0]
theorem end_f (m : List Int) (hl : m.length ≤ 300) {s : Cx} (hs : CI s (sre m) (sim m)) (k : Nat) (i : Int) (hi : (m.length : Int) ≤ i) (k4 : 4 ≤ k) : sluicewaylaw06_DriftSpreads.l0 (k + 1) m true (m.all (fun x => x % 4 == (rd m 0) % 4)) i s m.length = some true := by
  obtain ⟨k, rfl⟩ : ∃ k', k = k' + 4 := ⟨k - 4, by omega⟩
  have hb := sre_le m
  obtain ⟨h1, h2⟩ := bst_cases (sre m) (sim m)
  rw [sluicewaylaw06_DriftSpreads.l0, if_neg (by omega), Spread_f hs (by omega) (by omega) _ (by omega) k, Lean_f hs (by omega) (by omega) _ k]
  simp only [Option.bind_some, if_true]
  rw [if_pos (by omega), wrap64_in _ (by omega), if_pos (by omega), one_all, if_pos (by simp)]
  obtain ⟨s', e, c⟩ := Add_f hs (by omega) (by omega) m.length (by omega) (bst (sre m) (sim m)).1
  have hc := cre_le (bst (sre m) (sim m)).1
  have hd := cim_le (bst (sre m) (sim m)).1
  have e2 := Spread_f c (by omega) (by omega) (m.length + 1) (by omega) k
  obtain ⟨g1, g2⟩ := bst_cases (sre m + cre (bst (sre m) (sim m)).1) (sim m + cim (bst (sre m) (sim m)).1)
  split
  · rfl
  · simp only
    rw [e]
    simp only [Option.bind_some]
    rw [e2]
    simp only [Option.bind_some, if_true]
    congr 1
    rw [beq_iff_eq]
    rcases h1 with ⟨h0, h1⟩ | ⟨h0, h1⟩ | ⟨h0, h1⟩ | ⟨h0, h1⟩ <;> rw [h0] at g1 g2 ⊢ <;> simp only [show cre 0 = 1 from rfl, show cim 0 = 0 from rfl, show cre 1 = 0 from rfl, show cim 1 = 1 from rfl, show cre 2 = -1 from rfl, show cim 2 = 0 from rfl, show cre 3 = 0 from rfl, show cim 3 = -1 from rfl] at g1 g2 ⊢ <;> omega
theorem l0_f (m : List Int) (hl : m.length ≤ 300) {s : Cx} (hs : CI s (sre m) (sim m)) : ∀ (r i k : Nat), m.length - i = r → 1 ≤ i → r + 5 ≤ k → sluicewaylaw06_DriftSpreads.l0 k m true (one m i) i s m.length = some true := by
  intro r
  induction r with
  | zero =>
    intro i k hr h1 hk
    obtain ⟨k, rfl⟩ : ∃ k', k = k' + 1 := ⟨k - 1, by omega⟩
    have : one m i = m.all (fun x => x % 4 == (rd m 0) % 4) := by unfold one; rw [List.take_of_length_le (by omega)]
    rw [this]
    exact end_f m hl hs k i (by omega) (by omega)
  | succ r ih =>
    intro i k hr h1 hk
    obtain ⟨k, rfl⟩ : ∃ k', k = k' + 1 := ⟨k - 1, by omega⟩
    have hlt : i < m.length := by omega
    have hrd : rd m i = m[i] := by simp [rd, List.getD, hlt]
    have ht : m.take (i + 1) = m.take i ++ [m[i]] := by rw [List.take_succ_eq_append_getElem hlt]
    have hone : one m (i + 1) = (one m i && (m[i] % 4 == (rd m 0) % 4)) := by unfold one; rw [ht, List.all_append]; simp
    have := ih (i + 1) k (by omega) (by omega) (by omega)
    rw [hone, show ((i + 1 : Nat) : Int) = (i : Int) + 1 by omega] at this
    rw [sluicewaylaw06_DriftSpreads.l0, if_pos (by omega), Mod_f, Mod_f]
    simp only [Option.bind_some]
    rw [wrap64_in _ (by omega)]
    cases hoo : one m i with
    | true =>
      rw [hoo, Bool.true_and] at this
      rw [if_pos rfl, if_pos (by omega), if_pos (by omega), hrd]
      exact this
    | false =>
      rw [hoo, Bool.false_and] at this
      rw [if_neg (by decide)]
      exact this
theorem DriftSpreads : sluicewaylaw06_DriftSpreads.Pure := by
  intro l _ _ _
  refine ⟨400, ?_⟩
  have hsh : sluicewaylaw06_shown.f 400 = some true := shown_f 396
  obtain ⟨s, e0, c0⟩ := of_f l 400 (by omega)
  have hlen : (l.take 300).length ≤ 300 := by rw [List.length_take]; omega
  unfold sluicewaylaw06_DriftSpreads.f
  rw [hsh, e0]
  simp only [Option.bind_some]
  generalize l.take 300 = m at *
  have := l0_f m hlen c0 _ 1 400 rfl (by omega) (by omega)
  have h1 : one m 1 = true := by
    unfold one
    cases m with
    | nil => rfl
    | cons y t => simp [rd]
  rw [h1] at this
  exact this

end Go.Proofs.Ytnlcgibbonbniaa.Pure
