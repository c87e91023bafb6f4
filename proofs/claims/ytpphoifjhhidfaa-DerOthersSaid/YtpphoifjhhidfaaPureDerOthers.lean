/- The plain law DerOthers. -/
import Derived.Test.YtpphoifjhhidfaaGDerOthersx2
import Derived.Test.YtpphoifjhhidfaaTh3
namespace Go.Proofs.Ytpphoifjhhidfaa.Pure
set_option linter.unusedVariables false
set_option linter.unusedSimpArgs false
open Go.RowKit Go.Proofs.Ytpphoifjhhidfaa.Der Go.Proofs.Ytpphoifjhhidfaa.GDerOthers Go.Proofs.YtpphoifjhhidfaaW.PrintWords Go.Proofs.YtpphoifjhhidfaaW.PrintLast
-- needs Th3
theorem others_key (x : Int) (c : List Int) (hx : 0 ≤ x ∧ x ≤ 255) (hc : Bs c) (hl : c.length ≤ 100) :
    (∃ t : S24, ofF (x :: (c.length : Int) :: c) = some (t.f0, t.f1, t.f2, t.f3, t.f4, 0) ∧ rightF t = some true ∧ (x = 2 ∨ x = 1 ∨ x = 4 ∨ x = 12 ∨ x = 48 ∨ (160 ≤ x ∧ x ≤ 190))) ∨ (ofF (x :: (c.length : Int) :: c) = some (0, 0, e0, 0, [], 2) ∧ x ≠ 4) := by
  have hof := of_short x c hx hc (by omega)
  have hK : ∃ r, K19 c = some r := kids_total (readO 19) (read_total 19) (fun b t rest hb' hl' hr => read_shrinks hb' hl' hr) (c.length + 1) c [] hc (by omega) (by simp; omega)
  obtain ⟨r, hr⟩ := body_total K19 x c hc hK
  rw [hof, hr]
  cases r with
  | none =>
    refine .inr ⟨rfl, ?_⟩
    rintro rfl
    rw [bodyO, if_neg (by decide), if_neg (by decide), if_pos rfl] at hr
    cases hr
  | some t =>
    refine .inl ⟨t, rfl, ?_, ?_⟩
    · obtain ⟨g1, _, g3, g4⟩ := body_good 19 K19 (fun c' ts hc' hl' hk => by
        obtain ⟨new, rfl, g⟩ := kids_good 19 (readO 19) (read_good 19) _ c' [] ts hc' hl' hk
        simpa using g) x c hx hc (by omega) t hr
      have hlen : (lenL c.length).length ≤ 8 := by
        unfold lenL; split
        · simp
        · have := digN_len 7 (c.length : Int); simp; omega
      unfold rightF
      rw [if_pos (by rw [okT, g4]; simp; simp at g3; omega), g1]
    · unfold bodyO at hr
      by_cases h2 : x = 2
      · exact .inl h2
      by_cases h1 : x = 1
      · exact .inr (.inl h1)
      by_cases h4 : x = 4
      · exact .inr (.inr (.inl h4))
      by_cases h12 : x = 12
      · exact .inr (.inr (.inr (.inl h12)))
      by_cases h48 : x = 48
      · exact .inr (.inr (.inr (.inr (.inl h48))))
      by_cases h160 : 160 ≤ x ∧ x ≤ 190
      · exact .inr (.inr (.inr (.inr (.inr h160))))
      rw [if_neg h2, if_neg h1, if_neg h4, if_neg h12, if_neg h48, if_neg h160] at hr
      cases hr
theorem DerOthers : sluicewaylaw01_DerOthers.Pure := by
  intro a0 l1 hw0 _ _ hw
  have hb := byte_of_wf hw
  have hx : 0 ≤ a0 ∧ a0 ≤ 255 := byte_of_wf (l := [a0]) (by intro x hx; rw [List.mem_singleton.1 hx]; exact hw0) a0 (by simp)
  unfold sluicewaylaw01_DerOthers.f
  have hs : sluicewaylaw01_shown.f = some true := rfl
  simp only [hs, Option.bind_some]
  rw [if_pos (by unfold mn; split <;> omega), if_pos (by unfold mn; split <;> omega)]
  have hcl : (l1.take ((mn (l1.length : Int) 100) : Int).toNat).length ≤ 100 := by rw [List.length_take]; unfold mn; split <;> omega
  have hcb : Bs (l1.take ((mn (l1.length : Int) 100) : Int).toNat) := fun x hx => hb x (List.mem_of_mem_take hx)
  generalize l1.take ((mn (l1.length : Int) 100) : Int).toNat = c at *
  rw [if_pos (by simp; omega)]
  have key := others_key a0 c hx hcb hcl
  have hof : der_Of.f ([a0, (c.length : Int) % 256] ++ c) = ofF (a0 :: (c.length : Int) :: c) := by
    rw [show (c.length : Int) % 256 = c.length by omega]; rfl
  rw [hof]
  rcases key with ⟨t, h1, h2, h3⟩ | ⟨h1, h2⟩
  · rw [h1]
    simp only [Option.bind_some]
    have hR : der_Right.f t.f0 t.f1 t.f2 t.f3 t.f4 = some true := by cases t; exact h2
    rw [hR]
    simp only [Option.bind_some, if_true]
    by_cases g1 : a0 = 1
    · rw [if_pos g1]
    by_cases g2 : a0 = 2
    · rw [if_neg g1, if_pos g2]
    by_cases g4 : a0 = 4
    · rw [if_neg g1, if_neg g2, if_pos g4]
    by_cases g12 : a0 = 12
    · rw [if_neg g1, if_neg g2, if_neg g4, if_pos g12]
    by_cases g48 : a0 = 48
    · rw [if_neg g1, if_neg g2, if_neg g4, if_neg g12, if_pos g48]
    rw [if_neg g1, if_neg g2, if_neg g4, if_neg g12, if_neg g48, if_pos (by omega), if_pos (by omega)]
  · rw [h1]
    simp only [Option.bind_some, if_true]
    have g4 : (a0 != 4) = true := by simpa using h2
    rw [g4]
    simp
end Go.Proofs.Ytpphoifjhhidfaa.Pure
