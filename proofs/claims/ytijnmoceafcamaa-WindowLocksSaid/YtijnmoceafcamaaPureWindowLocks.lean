/- The row of WindowLocks, on whole numbers and lists: Fails rises one by one up to Limit, then it is locked; no condition. -/
import Derived.Test.YtijnmoceafcamaaGWindowLocksx3
import Derived.Test.YtijnmoceafcamaaWinSpec
namespace Go.Proofs.Ytijnmoceafcamaa.PureWindowLocks
open Go.RowKit Go.Proofs.Ytijnmoceafcamaa.GWindowLocks Go.Proofs.YtijnmoceafcamaaW.PrintWords Go.Proofs.YtijnmoceafcamaaW.PrintLast Go.Proofs.Ytijnmoceafcamaa.Win Go.Proofs.Ytijnmoceafcamaa.First

theorem mx_def (a b : Int) : mx a b = max a b := by unfold mx; omega
theorem mn_def (a b : Int) : mn a b = min a b := by unfold mn; omega
theorem w64 (a : Int) : wrap64 a = (a + 9223372036854775808) % 18446744073709551616 - 9223372036854775808 := by unfold wrap64; omega
theorem w64_in {a : Int} (h : -9223372036854775808 ≤ a ∧ a ≤ 9223372036854775807) : wrap64 a = a := by rw [w64]; omega
theorem bnd {a : Int} (h : (Lit.int .i64 a).wf = true) : -9223372036854775808 ≤ a ∧ a ≤ 9223372036854775807 := by
  simpa [Lit.wf, IntKind.min, IntKind.max, IntKind.bits, IntKind.signed] using h

theorem in_f (a b c : Int) : window_in_int.f a b c = some (decide (b ≤ a ∧ a ≤ c)) := by
  unfold window_in_int.f
  split <;> congr 1
  · apply decide_eq_decide.2; omega
  · symm; apply decide_eq_false; omega

theorem right_f (C L S P F M : Int) : window_Right.f C L S P F M = some (decide (Right C L S P F M)) := by
  unfold window_Right.f
  simp only [in_f, Option.bind_some, decide_eq_true_eq]
  (repeat' split) <;> congr 1
  · apply decide_eq_decide.2; unfold Right; omega
  all_goals (symm; apply decide_eq_false; unfold Right; omega)

theorem first_f (l : List Int) (f t : Int) (hl : l.length ≤ 1000) : window_first.f l f t = some (first l f t) := by
  unfold window_first.f
  rw [if_pos (by omega)]

theorem accept_f (k : Nat) (C L S P F M : Int) (l : List Int) (hl : l.length ≤ 1000) : window_Accept.f (k + 2) C L S P F M l = some (acc C L S P F M l) := by
  unfold window_Accept.f acc
  rw [right_f]
  simp only [Option.bind_some, decide_eq_true_eq]
  by_cases hr : Right C L S P F M
  · rw [if_pos hr, if_pos hr]
    have hr' := hr
    unfold Right at hr'
    by_cases hf : F ≥ M
    · rw [if_pos hf, if_pos hf]
    · rw [if_neg hf, if_neg hf, w64_in (a := C + L) (by omega)]
      have j1 : ∀ b : Int × Bool, (b.2 = true → b.1 ≤ 1099511627775 ∧ 0 ≤ b.1) → window_Accept.j1 (k + 1) l (C + L) b.1 b.2 C L S P F M = some (tail C L S F M l b) := by
        intro b hb
        simp only [window_Accept.j1, tail]
        by_cases h : b.2 = true
        · rw [if_pos h, if_pos h, w64_in (by have := hb h; omega)]
        · rw [if_neg h, if_neg h, w64_in (a := C + L + 1) (by omega), w64_in (a := C + L + S) (by omega), first_f l _ _ hl]
          simp only [Option.bind_some]
          rw [w64_in (a := F + 1) (by omega)]
          rcases first_cases l (C + L + 1) (C + L + S) with ⟨h1, _⟩ | ⟨c, h1, _, h3, _⟩
          · rw [h1]; rfl
          · rw [h1]
            have hc := (hitB_iff _ _ _).1 h3
            simp only [if_true]
            rw [w64_in (by omega)]
      rw [first_f l _ _ hl]
      simp only [Option.bind_some]
      have ha : (first l C (C + L)).2 = true → (first l C (C + L)).1 ≤ 1099511627775 ∧ 0 ≤ (first l C (C + L)).1 := by
        rcases first_cases l C (C + L) with ⟨h1, _⟩ | ⟨c, h1, _, h3, _⟩
        · rw [h1]; intro h; cases h
        · rw [h1]; intro _; have hc := (hitB_iff _ _ _).1 h3; exact ⟨by simp only; omega, by simp only; omega⟩
      by_cases h2 : (first l C (C + L)).2 = true
      · rw [if_pos h2, if_neg (fun h => by rw [h2] at h; cases h.1)]
        simp only [window_Accept.j0, Bool.false_eq_true, if_false]
        exact j1 _ ha
      · rw [if_neg h2]
        have h2' : (first l C (C + L)).2 = false := by simpa using h2
        by_cases hp : P > C + L
        · rw [if_pos ⟨h2', hp⟩]
          simp only [window_Accept.j0, hp, decide_true, if_true]
          rw [first_f l _ _ hl]
          simp only [Option.bind_some]
          refine j1 _ ?_
          rcases first_cases l P P with ⟨h1, _⟩ | ⟨c, h1, _, h3, _⟩
          · rw [h1]; intro h; cases h
          · rw [h1]; intro _; have hc := (hitB_iff _ _ _).1 h3; exact ⟨by simp only; omega, by simp only; omega⟩
        · rw [if_neg (fun h => hp h.2)]
          simp only [window_Accept.j0, hp, decide_false, Bool.false_eq_true, if_false]
          exact j1 _ ha
  · rw [if_neg hr, if_neg hr]

theorem is_shown (k : Nat) : sluicewaylaw05_shown.f (k + 2) = some true := by
  unfold sluicewaylaw05_shown.f
  rw [accept_f k _ _ _ _ _ _ _ (by decide), accept_f k _ _ _ _ _ _ _ (by decide)]
  have e1 : acc 5 2 10 0 0 5 [6] = (7, 2, 10, 0, 0, 5, 6, 0) := by rfl
  have e2 : acc 5 2 10 0 0 5 [9] = (5, 2, 10, 10, 1, 5, 0, 8) := by rfl
  have e3 : acc 5 2 10 10 1 5 [10] = (11, 2, 10, 0, 0, 5, 10, 0) := by rfl
  rw [e1, e2]
  simp only [Option.bind_some]
  rw [accept_f k _ _ _ _ _ _ _ (by decide), e3]
  rfl

/-- What nothing hit does to a right token that is not locked. -/
theorem acc_nil (C L S P F M : Int) (h : Right C L S P F M) (hf : F < M) : acc C L S P F M [] = (C, L, S, 0, F + 1, M, 0, 6) := by
  unfold acc tail
  rw [if_pos h, if_neg (by omega)]
  simp only [first_nil]
  split <;> rfl

theorem acc_locked (C L S P F M : Int) (l : List Int) (h : Right C L S P F M) (hf : M ≤ F) : acc C L S P F M l = (C, L, S, P, F, M, 0, 7) := by
  unfold acc
  rw [if_pos h, if_pos (by omega)]

theorem rounds (l : List Int) (C L S M : Int) : ∀ (d : Nat) (k : Nat) (i P F : Int), Right C L S P F M → 0 ≤ i → (F < M → i + (M - F) ≤ 100) → (M - F).toNat = d → 2 * d + 5 ≤ k →
    sluicewaylaw05_WindowLocks.l0 k l true i C L S P F M = some true := by
  intro d
  induction d with
  | zero =>
    intro k i P F hr h0 _ hd hk
    obtain ⟨k, rfl⟩ : ∃ m, k = m + 4 := ⟨k - 4, by omega⟩
    have hf : M ≤ F := by omega
    have stop : sluicewaylaw05_WindowLocks.j1 (k + 3) l true i false C L S P F M = some true := by
      simp only [sluicewaylaw05_WindowLocks.j1, Bool.false_eq_true, if_false]
      rw [mn_def, if_pos (by omega), if_pos (by omega), accept_f k _ _ _ _ _ _ _ (by rw [List.length_take]; omega), acc_locked _ _ _ _ _ _ _ hr hf]
      simp only [Option.bind_some, if_true]
      rw [if_pos hf]
      simp
    simp only [sluicewaylaw05_WindowLocks.l0]
    split
    · rw [decide_eq_false (by omega)]; exact stop
    · exact stop
  | succ d ih =>
    intro k i P F hr h0 h100 hd hk
    obtain ⟨k, rfl⟩ : ∃ m, k = m + 4 := ⟨k - 4, by omega⟩
    have hf : F < M := by omega
    have hi := h100 hf
    simp only [sluicewaylaw05_WindowLocks.l0]
    rw [if_pos (by omega), decide_eq_true hf]
    simp only [sluicewaylaw05_WindowLocks.j1, if_true]
    rw [accept_f k _ _ _ _ _ _ _ (by simp), acc_nil _ _ _ _ _ _ hr hf]
    have hr' := hr
    unfold Right at hr'
    simp only [Option.bind_some, if_true]
    rw [if_pos (w64_in (by omega)).symm, w64_in (a := i + 1) (by omega)]
    exact ih (k + 2) (i + 1) 0 (F + 1) (by unfold Right; omega) (by omega) (by omega) (by omega) (by omega)

theorem WindowLocks (C L S P F M : Int) (l : List Int) : ∃ k, sluicewaylaw05_WindowLocks.f k C L S P F M l = some true := by
  refine ⟨300, ?_⟩
  unfold sluicewaylaw05_WindowLocks.f
  rw [is_shown, right_f]
  simp only [Option.bind_some, decide_eq_true_eq]
  by_cases hr : Right C L S P F M
  · rw [if_pos hr]
    have hr' := hr
    unfold Right at hr'
    exact rounds l C L S M (M - F).toNat 300 0 P F hr (Int.le_refl _) (by omega) rfl (by omega)
  · rw [if_neg hr]

end Go.Proofs.Ytijnmoceafcamaa.PureWindowLocks
