/- The plain law DerTruths. -/
import Derived.Test.YtpphoifjhhidfaaGDerTruthsx2
import Derived.Test.YtpphoifjhhidfaaTh2
namespace Go.Proofs.Ytpphoifjhhidfaa.Pure
set_option linter.unusedVariables false
set_option linter.unusedSimpArgs false
open Go.RowKit Go.Proofs.Ytpphoifjhhidfaa.Der Go.Proofs.Ytpphoifjhhidfaa.GDerTruths Go.Proofs.YtpphoifjhhidfaaW.PrintWords Go.Proofs.YtpphoifjhhidfaaW.PrintLast
theorem DerTruths : sluicewaylaw01_DerTruths.Pure := by
  intro l0 _ _ hw
  have hb := byte_of_wf hw
  unfold sluicewaylaw01_DerTruths.f
  have hs : sluicewaylaw01_shown.f = some true := rfl
  simp only [hs, Option.bind_some]
  rw [if_pos (by unfold mn; split <;> omega), if_pos (by unfold mn; split <;> omega)]
  have hcl : (l0.take ((mn (l0.length : Int) 8) : Int).toNat).length ≤ 8 := by rw [List.length_take]; unfold mn; split <;> omega
  have hcb : Bs (l0.take ((mn (l0.length : Int) 8) : Int).toNat) := fun x hx => hb x (List.mem_of_mem_take hx)
  generalize l0.take ((mn (l0.length : Int) 8) : Int).toNat = c at *
  rw [if_pos (by simp; omega)]
  have hof : der_Of.f ([1, (c.length : Int) % 256] ++ c) = some (resF (if c.length = 1 ∧ (c.getD 0 0 = 0 ∨ c.getD 0 0 = 255) then some ⟨4, c.getD 0 0 % 2, e0, 0, []⟩ else none)) := by
    rw [show (c.length : Int) % 256 = c.length by omega]
    have h := of_short 1 c (by omega) hcb (by omega)
    rw [bodyO, if_neg (by omega), if_pos rfl] at h
    exact h
  by_cases h1 : c.length = 1
  · obtain ⟨y, rfl⟩ := List.length_eq_one_iff.1 h1
    have hrd : rd [y] 0 = y := rfl
    have hg : [y].getD 0 0 = y := rfl
    rw [hg] at hof
    by_cases h0 : y = 0
    · subst h0
      rw [if_pos ⟨rfl, .inl rfl⟩] at hof
      rw [hof]
      simp only [resF, Option.bind_some, hrd]
      rw [if_pos (by simp), if_pos (by simp)]
      simp only [if_true]
      rw [show (Go.bits .and .u8 0 1) = 0 by decide]
      unfold wrap64
      decide
    · by_cases h255 : y = 255
      · subst h255
        rw [if_pos ⟨rfl, .inr rfl⟩] at hof
        rw [hof]
        simp only [resF, Option.bind_some, hrd]
        rw [if_pos (by simp), if_pos (by simp), if_neg (by decide)]
        simp only [if_true]
        rw [show (Go.bits .and .u8 255 1) = 1 by decide]
        unfold wrap64
        decide
      · rw [if_neg (by simp [h0, h255])] at hof
        rw [hof]
        simp only [resF, Option.bind_some, hrd]
        rw [if_pos (by simp), if_pos (by simp), if_neg h0, if_neg h255]
        rfl
  · rw [if_neg (by simp [h1])] at hof
    rw [hof]
    simp only [resF, Option.bind_some]
    rw [if_neg (by omega)]
    rfl
end Go.Proofs.Ytpphoifjhhidfaa.Pure
