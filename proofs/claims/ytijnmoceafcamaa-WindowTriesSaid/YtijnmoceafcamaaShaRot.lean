/- math/bits.RotateLeft32 and sha.step: they change nothing. (The two walks are the kit's own print of them, turned to 'w = w''.) -/
import Derived.Test.YtijnmoceafcamaaShaSpec
import Derived.Test.YtijnmoceafcamaaGRotateLeft32x0
namespace Go.Proofs.Ytijnmoceafcamaa.Sha
open Go.RowKit Go.Proofs.YtijnmoceafcamaaW.PrintWords Go.Proofs.YtijnmoceafcamaaW.PrintLast Go.Proofs.YtijnmoceafcamaaW.PrintMore
set_option linter.unusedVariables false
set_option linter.unusedSimpArgs false

set_option maxHeartbeats 8000000 in
set_option maxRecDepth 100000 in
theorem rot_same (a0 : Int) (a1 : Int) (r : Int) (w : World) (h : GRotateLeft32.bits_RotateLeft32.f a0 a1 = some r) :
    Calls Try.prog 54 #[.int .u32 a0, .int .i64 a1] w fun e w' => e = .returned (.int .u32 r) ∧ w = w' := by
  have H : (if 0 ≤ (Go.bits .and .u64 (IntKind.u64.wrap (a1)) 31) then (if 0 ≤ (IntKind.u64.wrap (32 - (Go.bits .and .u64 (IntKind.u64.wrap (a1)) 31))) then (some (Go.bits .or .u32 (shl .u32 a0 (Go.bits .and .u64 (IntKind.u64.wrap (a1)) 31)) (shr .u32 a0 (IntKind.u64.wrap (32 - (Go.bits .and .u64 (IntKind.u64.wrap (a1)) 31)))))) else (none)) else (none)) = some r := h
  clear h
  obtain ⟨ji3, hji3⟩ : ∃ j_ : Int, (Go.bits .and .u64 (IntKind.u64.wrap (a1)) 31) = j_ := ⟨_, rfl⟩
  replace H : (if 0 ≤ (ji3) then (if 0 ≤ (IntKind.u64.wrap (32 - (ji3))) then (some (Go.bits .or .u32 (shl .u32 a0 (ji3)) (shr .u32 a0 (IntKind.u64.wrap (32 - (ji3)))))) else (none)) else (none)) = some r := by first | (rw [hji3] at H; exact H) | (simp only [hji3] at H ⊢; exact H)
  by_cases c4 : 0 ≤ (ji3)
  · rw [if_pos c4] at H
    have c4b0 := eq_true c4
    have c4b1 : decide (0 ≤ (ji3)) = true := decide_eq_true c4
    clear c4
    obtain ⟨ji5, hji5⟩ : ∃ j_ : Int, (shl .u32 a0 (ji3)) = j_ := ⟨_, rfl⟩
    replace H : (if 0 ≤ (IntKind.u64.wrap (32 - (ji3))) then (some (Go.bits .or .u32 (ji5) (shr .u32 a0 (IntKind.u64.wrap (32 - (ji3)))))) else (none)) = some r := by first | (rw [hji5] at H; exact H) | (simp only [hji5] at H ⊢; exact H)
    have hji5_ : (IntKind.u32.wrap (a0 * 2 ^ min (ji3).toNat 32)) = ji5 := hji5
    have hji5z : (ji3) ≤ 32 → (IntKind.u32.wrap (a0 * 2 ^ (ji3).toNat)) = ji5 := shl_small hji5
    obtain ⟨ji6, hji6⟩ : ∃ j_ : Int, (IntKind.u64.wrap (32 - (ji3))) = j_ := ⟨_, rfl⟩
    replace H : (if 0 ≤ (ji6) then (some (Go.bits .or .u32 (ji5) (shr .u32 a0 (ji6)))) else (none)) = some r := by first | (rw [hji6] at H; exact H) | (simp only [hji6] at H ⊢; exact H)
    by_cases c7 : 0 ≤ (ji6)
    · rw [if_pos c7] at H
      have c7b0 := eq_true c7
      have c7b1 : decide (0 ≤ (ji6)) = true := decide_eq_true c7
      clear c7
      obtain ⟨ji8, hji8⟩ : ∃ j_ : Int, (shr .u32 a0 (ji6)) = j_ := ⟨_, rfl⟩
      replace H : (some (Go.bits .or .u32 (ji5) (ji8))) = some r := by first | (rw [hji8] at H; exact H) | (simp only [hji8] at H ⊢; exact H)
      have hji8_ : (a0 / 2 ^ min (ji6).toNat 32) = ji8 := hji8
      have hji8z : (ji6) ≤ 32 → (a0 / 2 ^ (ji6).toNat) = ji8 := shr_small hji8
      obtain rfl := Option.some.inj H
      go_enter Try.func54, Try.ntmps54
      go_wp2
      go_ret
      exact ⟨by first | rfl | (simp; done) | (simp only [← hji3, ← hji5, ← hji6, ← hji8] <;> (first | rfl | simp)) | (simp [*]; done), rfl⟩
    · rw [if_neg c7] at H
      exact absurd H (by simp)
  · rw [if_neg c4] at H
    exact absurd H (by simp)

set_option maxHeartbeats 8000000 in
set_option maxRecDepth 100000 in
theorem step_same (a0 : Int) (a1 : Int) (a2 : Int) (a3 : Int) (r1 : Int) (r2 : Int) (w : World) (h : Gstep.sha_step.f a0 a1 a2 a3 = some (r1, r2)) :
    Calls Try.prog 55 #[.int .i64 a0, .int .u32 a1, .int .u32 a2, .int .u32 a3] w fun e w' => e = .returned (.tuple #[.int .u32 r1, .int .u32 r2]) ∧ w = w' := by
  have H : (if (wrap64 (Int.tdiv a0 20)) = 0 then (some (Go.bits .or .u32 (Go.bits .and .u32 a1 a2) (Go.bits .and .u32 (Go.bits .xor .u32 4294967295 a1) a3), 1518500249)) else (if (wrap64 (Int.tdiv a0 20)) = 1 then (some (Go.bits .xor .u32 (Go.bits .xor .u32 a1 a2) a3, 1859775393)) else (if (wrap64 (Int.tdiv a0 20)) = 2 then (some (Go.bits .or .u32 (Go.bits .or .u32 (Go.bits .and .u32 a1 a2) (Go.bits .and .u32 a1 a3)) (Go.bits .and .u32 a2 a3), 2400959708)) else (some (Go.bits .xor .u32 (Go.bits .xor .u32 a1 a2) a3, 3395469782))))) = some (r1, r2) := h
  clear h
  by_cases c5 : (wrap64 (Int.tdiv a0 20)) = 0
  · rw [if_pos c5] at H
    have c5b0 : ((wrap64 (Int.tdiv a0 20)) == 0) = true := beq_iff_eq.mpr c5
    have c5b1 : ((wrap64 (Int.tdiv a0 20)) != 0) = false := bne_eq_false_iff_eq.mpr c5
    clear c5
    simp only [Option.some.injEq, Prod.mk.injEq] at H
    obtain ⟨rfl, rfl⟩ := H
    go_enter Try.func55, Try.ntmps55
    go_wp2
    go_ret2
    exact ⟨by first | rfl | (simp; done) | (simp [*]; done), rfl⟩
  · rw [if_neg c5] at H
    have c5b0 : ((wrap64 (Int.tdiv a0 20)) == 0) = false := beq_eq_false_iff_ne.mpr c5
    have c5b1 : ((wrap64 (Int.tdiv a0 20)) != 0) = true := bne_iff_ne.mpr c5
    by_cases c6 : (wrap64 (Int.tdiv a0 20)) = 1
    · rw [if_pos c6] at H
      have c6b0 : ((wrap64 (Int.tdiv a0 20)) == 1) = true := beq_iff_eq.mpr c6
      have c6b1 : ((wrap64 (Int.tdiv a0 20)) != 1) = false := bne_eq_false_iff_eq.mpr c6
      clear c6
      simp only [Option.some.injEq, Prod.mk.injEq] at H
      obtain ⟨rfl, rfl⟩ := H
      go_enter Try.func55, Try.ntmps55
      go_wp2
      go_ret2
      exact ⟨by first | rfl | (simp; done) | (simp [*]; done), rfl⟩
    · rw [if_neg c6] at H
      have c6b0 : ((wrap64 (Int.tdiv a0 20)) == 1) = false := beq_eq_false_iff_ne.mpr c6
      have c6b1 : ((wrap64 (Int.tdiv a0 20)) != 1) = true := bne_iff_ne.mpr c6
      by_cases c7 : (wrap64 (Int.tdiv a0 20)) = 2
      · rw [if_pos c7] at H
        have c7b0 : ((wrap64 (Int.tdiv a0 20)) == 2) = true := beq_iff_eq.mpr c7
        have c7b1 : ((wrap64 (Int.tdiv a0 20)) != 2) = false := bne_eq_false_iff_eq.mpr c7
        clear c7
        simp only [Option.some.injEq, Prod.mk.injEq] at H
        obtain ⟨rfl, rfl⟩ := H
        go_enter Try.func55, Try.ntmps55
        go_wp2
        go_ret2
        exact ⟨by first | rfl | (simp; done) | (simp [*]; done), rfl⟩
      · rw [if_neg c7] at H
        have c7b0 : ((wrap64 (Int.tdiv a0 20)) == 2) = false := beq_eq_false_iff_ne.mpr c7
        have c7b1 : ((wrap64 (Int.tdiv a0 20)) != 2) = true := bne_iff_ne.mpr c7
        simp only [Option.some.injEq, Prod.mk.injEq] at H
        obtain ⟨rfl, rfl⟩ := H
        go_enter Try.func55, Try.ntmps55
        go_wp2
        go_ret2
        exact ⟨by first | rfl | (simp; done) | (simp [*]; done), rfl⟩

theorem rot_calls (x n : Int) (hn : n = 1 ∨ n = 5 ∨ n = 30) (w : World) : Calls Try.prog 54 #[.int .u32 x, .int .i64 n] w fun e w' => e = .returned (.int .u32 (rot x n)) ∧ w' = w := (rot_same x n _ w (rot_some x n hn)).mono fun _ _ h => ⟨h.1, h.2.symm⟩
theorem step_calls (t b c d : Int) (w : World) : Calls Try.prog 55 #[.int .i64 t, .int .u32 b, .int .u32 c, .int .u32 d] w fun e w' => e = .returned (.tuple #[.int .u32 (stp t b c d).1, .int .u32 (stp t b c d).2]) ∧ w' = w := (step_same t b c d _ _ w (stp_some t b c d)).mono fun _ _ h => ⟨h.1, h.2.symm⟩
end Go.Proofs.Ytijnmoceafcamaa.Sha
