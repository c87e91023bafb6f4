-- Printed by a program of this session's own (the kit's print, patched: wip/scripts/patch.py), for this claim. Not trusted: Lean checks it.
import Derived.Test.YtijnmoceafcamaaGstepx0
namespace Go.Proofs.Ytijnmoceafcamaa.Gstep
open Go.RowKit Go.Proofs.YtijnmoceafcamaaW.PrintWords Go.Proofs.YtijnmoceafcamaaW.PrintLast Go.Proofs.YtijnmoceafcamaaW.PrintMore
attribute [local go_sem] max2_int min2_int max_two min_two max_three min_three max_four min_four   -- for this text's walks alone
set_option linter.unusedVariables false
set_option linter.unusedSimpArgs false

/-! ### sha_step: function 55 -/
def sha_step.f (a0 : Int) (a1 : Int) (a2 : Int) (a3 : Int) : Option (Int × Int) := if (wrap64 (Int.tdiv a0 20)) = 0 then (some (Go.bits .or .u32 (Go.bits .and .u32 a1 a2) (Go.bits .and .u32 (Go.bits .xor .u32 4294967295 a1) a3), 1518500249)) else (if (wrap64 (Int.tdiv a0 20)) = 1 then (some (Go.bits .xor .u32 (Go.bits .xor .u32 a1 a2) a3, 1859775393)) else (if (wrap64 (Int.tdiv a0 20)) = 2 then (some (Go.bits .or .u32 (Go.bits .or .u32 (Go.bits .and .u32 a1 a2) (Go.bits .and .u32 a1 a3)) (Go.bits .and .u32 a2 a3), 2400959708)) else (some (Go.bits .xor .u32 (Go.bits .xor .u32 a1 a2) a3, 3395469782))))
set_option maxHeartbeats 8000000 in
set_option maxRecDepth 100000 in
theorem sha_step.calls (a0 : Int) (a1 : Int) (a2 : Int) (a3 : Int) (r1 : Int) (r2 : Int) (w : World) (h : sha_step.f a0 a1 a2 a3 = some (r1, r2)) :
    Calls Try.prog 55 #[.int .i64 a0, .int .u32 a1, .int .u32 a2, .int .u32 a3] w fun e w' => e = .returned (.tuple #[.int .u32 r1, .int .u32 r2]) ∧ Drawn0 w w' := by
  have H : (if (wrap64 (Int.tdiv a0 20)) = 0 then (some (Go.bits .or .u32 (Go.bits .and .u32 a1 a2) (Go.bits .and .u32 (Go.bits .xor .u32 4294967295 a1) a3), 1518500249)) else (if (wrap64 (Int.tdiv a0 20)) = 1 then (some (Go.bits .xor .u32 (Go.bits .xor .u32 a1 a2) a3, 1859775393)) else (if (wrap64 (Int.tdiv a0 20)) = 2 then (some (Go.bits .or .u32 (Go.bits .or .u32 (Go.bits .and .u32 a1 a2) (Go.bits .and .u32 a1 a3)) (Go.bits .and .u32 a2 a3), 2400959708)) else (some (Go.bits .xor .u32 (Go.bits .xor .u32 a1 a2) a3, 3395469782))))) = some (r1, r2) := h
  clear h
  by_cases c5 : (wrap64 (Int.tdiv a0 20)) = 0
  · rw [if_pos c5] at H
    have c5b0 : ((wrap64 (Int.tdiv a0 20)) == 0) = true := beq_iff_eq.mpr c5
    have c5b1 : ((wrap64 (Int.tdiv a0 20)) != 0) = false := bne_eq_false_iff_eq.mpr c5
    clear c5
    simp only [Option.some.injEq, Prod.mk.injEq] at H
    obtain ⟨rfl, rfl⟩ := H
    go_enter Try.func55, Try.ntmps55
    go_wp2
    go_ret2
    exact ⟨by first | rfl | (simp; done) | (simp [*]; done), by repeat (first | exact Drawn0.refl _ | apply Drawn0.step)⟩
  · rw [if_neg c5] at H
    have c5b0 : ((wrap64 (Int.tdiv a0 20)) == 0) = false := beq_eq_false_iff_ne.mpr c5
    have c5b1 : ((wrap64 (Int.tdiv a0 20)) != 0) = true := bne_iff_ne.mpr c5
    by_cases c6 : (wrap64 (Int.tdiv a0 20)) = 1
    · rw [if_pos c6] at H
      have c6b0 : ((wrap64 (Int.tdiv a0 20)) == 1) = true := beq_iff_eq.mpr c6
      have c6b1 : ((wrap64 (Int.tdiv a0 20)) != 1) = false := bne_eq_false_iff_eq.mpr c6
      clear c6
      simp only [Option.some.injEq, Prod.mk.injEq] at H
      obtain ⟨rfl, rfl⟩ := H
      go_enter Try.func55, Try.ntmps55
      go_wp2
      go_ret2
      exact ⟨by first | rfl | (simp; done) | (simp [*]; done), by repeat (first | exact Drawn0.refl _ | apply Drawn0.step)⟩
    · rw [if_neg c6] at H
      have c6b0 : ((wrap64 (Int.tdiv a0 20)) == 1) = false := beq_eq_false_iff_ne.mpr c6
      have c6b1 : ((wrap64 (Int.tdiv a0 20)) != 1) = true := bne_iff_ne.mpr c6
      by_cases c7 : (wrap64 (Int.tdiv a0 20)) = 2
      · rw [if_pos c7] at H
        have c7b0 : ((wrap64 (Int.tdiv a0 20)) == 2) = true := beq_iff_eq.mpr c7
        have c7b1 : ((wrap64 (Int.tdiv a0 20)) != 2) = false := bne_eq_false_iff_eq.mpr c7
        clear c7
        simp only [Option.some.injEq, Prod.mk.injEq] at H
        obtain ⟨rfl, rfl⟩ := H
        go_enter Try.func55, Try.ntmps55
        go_wp2
        go_ret2
        exact ⟨by first | rfl | (simp; done) | (simp [*]; done), by repeat (first | exact Drawn0.refl _ | apply Drawn0.step)⟩
      · rw [if_neg c7] at H
        have c7b0 : ((wrap64 (Int.tdiv a0 20)) == 2) = false := beq_eq_false_iff_ne.mpr c7
        have c7b1 : ((wrap64 (Int.tdiv a0 20)) != 2) = true := bne_iff_ne.mpr c7
        simp only [Option.some.injEq, Prod.mk.injEq] at H
        obtain ⟨rfl, rfl⟩ := H
        go_enter Try.func55, Try.ntmps55
        go_wp2
        go_ret2
        exact ⟨by first | rfl | (simp; done) | (simp [*]; done), by repeat (first | exact Drawn0.refl _ | apply Drawn0.step)⟩

end Go.Proofs.Ytijnmoceafcamaa.Gstep
