/- The row of WindowOnce, on whole numbers and lists: what is accepted rises, and Counter never falls; no condition. -/
import Derived.Test.YtijnmoceafcamaaGWindowOncex2
import Derived.Test.YtijnmoceafcamaaWinSpec
namespace Go.Proofs.Ytijnmoceafcamaa.PureWindowOnce
open Go.RowKit Go.Proofs.Ytijnmoceafcamaa.GWindowOnce Go.Proofs.YtijnmoceafcamaaW.PrintWords Go.Proofs.YtijnmoceafcamaaW.PrintLast Go.Proofs.Ytijnmoceafcamaa.Win Go.Proofs.Ytijnmoceafcamaa.First

theorem mx_def (a b : Int) : mx a b = max a b := by unfold mx; omega
theorem mn_def (a b : Int) : mn a b = min a b := by unfold mn; omega
theorem w64 (a : Int) : wrap64 a = (a + 9223372036854775808) % 18446744073709551616 - 9223372036854775808 := by unfold wrap64; omega
theorem w64_in {a : Int} (h : -9223372036854775808 ≤ a ∧ a ≤ 9223372036854775807) : wrap64 a = a := by rw [w64]; omega
theorem bnd {a : Int} (h : (Lit.int .i64 a).wf = true) : -9223372036854775808 ≤ a ∧ a ≤ 9223372036854775807 := by
  simpa [Lit.wf, IntKind.min, IntKind.max, IntKind.bits, IntKind.signed] using h

theorem in_f (a b c : Int) : window_in_int.f a b c = some (decide (b ≤ a ∧ a ≤ c)) := by
  unfold window_in_int.f
  split <;> congr 1
  · apply decide_eq_decide.2; omega
  · symm; apply decide_eq_false; omega

theorem right_f (C L S P F M : Int) : window_Right.f C L S P F M = some (decide (Right C L S P F M)) := by
  unfold window_Right.f
  simp only [in_f, Option.bind_some, decide_eq_true_eq]
  (repeat' split) <;> congr 1
  · apply decide_eq_decide.2; unfold Right; omega
  all_goals (symm; apply decide_eq_false; unfold Right; omega)

theorem first_f (l : List Int) (f t : Int) (hl : l.length ≤ 1000) : window_first.f l f t = some (first l f t) := by
  unfold window_first.f
  rw [if_pos (by omega)]

theorem accept_f (k : Nat) (C L S P F M : Int) (l : List Int) (hl : l.length ≤ 1000) : window_Accept.f (k + 2) C L S P F M l = some (acc C L S P F M l) := by
  unfold window_Accept.f acc
  rw [right_f]
  simp only [Option.bind_some, decide_eq_true_eq]
  by_cases hr : Right C L S P F M
  · rw [if_pos hr, if_pos hr]
    have hr' := hr
    unfold Right at hr'
    by_cases hf : F ≥ M
    · rw [if_pos hf, if_pos hf]
    · rw [if_neg hf, if_neg hf, w64_in (a := C + L) (by omega)]
      have j1 : ∀ b : Int × Bool, (b.2 = true → b.1 ≤ 1099511627775 ∧ 0 ≤ b.1) → window_Accept.j1 (k + 1) l (C + L) b.1 b.2 C L S P F M = some (tail C L S F M l b) := by
        intro b hb
        simp only [window_Accept.j1, tail]
        by_cases h : b.2 = true
        · rw [if_pos h, if_pos h, w64_in (by have := hb h; omega)]
        · rw [if_neg h, if_neg h, w64_in (a := C + L + 1) (by omega), w64_in (a := C + L + S) (by omega), first_f l _ _ hl]
          simp only [Option.bind_some]
          rw [w64_in (a := F + 1) (by omega)]
          rcases first_cases l (C + L + 1) (C + L + S) with ⟨h1, _⟩ | ⟨c, h1, _, h3, _⟩
          · rw [h1]; rfl
          · rw [h1]
            have hc := (hitB_iff _ _ _).1 h3
            simp only [if_true]
            rw [w64_in (by omega)]
      rw [first_f l _ _ hl]
      simp only [Option.bind_some]
      have ha : (first l C (C + L)).2 = true → (first l C (C + L)).1 ≤ 1099511627775 ∧ 0 ≤ (first l C (C + L)).1 := by
        rcases first_cases l C (C + L) with ⟨h1, _⟩ | ⟨c, h1, _, h3, _⟩
        · rw [h1]; intro h; cases h
        · rw [h1]; intro _; have hc := (hitB_iff _ _ _).1 h3; exact ⟨by simp only; omega, by simp only; omega⟩
      by_cases h2 : (first l C (C + L)).2 = true
      · rw [if_pos h2, if_neg (fun h => by rw [h2] at h; cases h.1)]
        simp only [window_Accept.j0, Bool.false_eq_true, if_false]
        exact j1 _ ha
      · rw [if_neg h2]
        have h2' : (first l C (C + L)).2 = false := by simpa using h2
        by_cases hp : P > C + L
        · rw [if_pos ⟨h2', hp⟩]
          simp only [window_Accept.j0, hp, decide_true, if_true]
          rw [first_f l _ _ hl]
          simp only [Option.bind_some]
          refine j1 _ ?_
          rcases first_cases l P P with ⟨h1, _⟩ | ⟨c, h1, _, h3, _⟩
          · rw [h1]; intro h; cases h
          · rw [h1]; intro _; have hc := (hitB_iff _ _ _).1 h3; exact ⟨by simp only; omega, by simp only; omega⟩
        · rw [if_neg (fun h => hp h.2)]
          simp only [window_Accept.j0, hp, decide_false, Bool.false_eq_true, if_false]
          exact j1 _ ha
  · rw [if_neg hr, if_neg hr]

theorem is_shown (k : Nat) : sluicewaylaw05_shown.f (k + 2) = some true := by
  unfold sluicewaylaw05_shown.f
  rw [accept_f k _ _ _ _ _ _ _ (by decide), accept_f k _ _ _ _ _ _ _ (by decide)]
  have e1 : acc 5 2 10 0 0 5 [6] = (7, 2, 10, 0, 0, 5, 6, 0) := by rfl
  have e2 : acc 5 2 10 0 0 5 [9] = (5, 2, 10, 10, 1, 5, 0, 8) := by rfl
  have e3 : acc 5 2 10 10 1 5 [10] = (11, 2, 10, 0, 0, 5, 10, 0) := by rfl
  rw [e1, e2]
  simp only [Option.bind_some]
  rw [accept_f k _ _ _ _ _ _ _ (by decide), e3]
  rfl

/-- A right token stays right; what is accepted is from Counter on, and Counter is then one more; else Counter stays. -/
theorem acc_step (C L S P F M : Int) (l : List Int) (h : Right C L S P F M) :
    ∃ C' P' F' c e, acc C L S P F M l = (C', L, S, P', F', M, c, e) ∧ Right C' L S P' F' M ∧ (e = 0 → C ≤ c ∧ C' = c + 1 ∧ c ≤ 1099511627775) ∧ (e ≠ 0 → C' = C) := by
  have h' := h
  unfold Right at h'
  unfold acc
  rw [if_pos h]
  by_cases hf : F ≥ M
  · rw [if_pos hf]
    exact ⟨_, _, _, _, _, rfl, h, fun e => by omega, fun _ => rfl⟩
  · rw [if_neg hf]
    have key : ∀ b : Int × Bool, (b.2 = true → C ≤ b.1 ∧ b.1 ≤ 1099511627775) →
        ∃ C' P' F' c e, tail C L S F M l b = (C', L, S, P', F', M, c, e) ∧ Right C' L S P' F' M ∧ (e = 0 → C ≤ c ∧ C' = c + 1 ∧ c ≤ 1099511627775) ∧ (e ≠ 0 → C' = C) := by
      intro b hb
      unfold tail
      by_cases h2 : b.2 = true
      · rw [if_pos h2]
        have := hb h2
        exact ⟨_, _, _, _, _, rfl, by unfold Right; omega, fun _ => ⟨this.1, rfl, this.2⟩, fun h => absurd rfl h⟩
      · rw [if_neg h2]
        rcases first_cases l (C + L + 1) (C + L + S) with ⟨h1, _⟩ | ⟨c, h1, _, h3, _⟩
        · rw [h1]
          simp only [Bool.false_eq_true, if_false]
          exact ⟨_, _, _, _, _, rfl, by unfold Right; omega, fun e => by omega, fun _ => rfl⟩
        · rw [h1]
          have hc := (hitB_iff _ _ _).1 h3
          simp only [if_true]
          exact ⟨_, _, _, _, _, rfl, by unfold Right; omega, fun e => by omega, fun _ => rfl⟩
    split
    · rename_i hp
      refine key _ ?_
      rcases first_cases l P P with ⟨h1, _⟩ | ⟨c, h1, _, h3, _⟩
      · rw [h1]; intro h; cases h
      · rw [h1]; intro _; have hc := (hitB_iff _ _ _).1 h3; exact ⟨by simp only; omega, by simp only; omega⟩
    · refine key _ ?_
      rcases first_cases l C (C + L) with ⟨h1, _⟩ | ⟨c, h1, _, h3, _⟩
      · rw [h1]; intro h; cases h
      · rw [h1]; intro _; have hc := (hitB_iff _ _ _).1 h3; exact ⟨by simp only; omega, by simp only; omega⟩

theorem rounds (rows : List (List Int)) (L S M : Int) : ∀ (d : Nat) (k : Nat) (i last C P F : Int), Right C L S P F M → last < C → 0 ≤ i → i ≤ 40 → 40 - i = d → 4 * d + 8 ≤ k →
    sluicewaylaw05_WindowOnce.l0 k rows true last i C L S P F M = some true := by
  intro d
  induction d with
  | zero =>
    intro k i last C P F hr hl h0 h1 hd hk
    obtain ⟨k, rfl⟩ : ∃ m, k = m + 2 := ⟨k - 2, by omega⟩
    have e : decide (i < 40) = false := decide_eq_false (by omega)
    simp only [sluicewaylaw05_WindowOnce.l0, e, sluicewaylaw05_WindowOnce.j1, Bool.false_eq_true, if_false, ite_self]
  | succ d ih =>
    intro k i last C P F hr hl h0 h1 hd hk
    obtain ⟨k, rfl⟩ : ∃ m, k = m + 5 := ⟨k - 5, by omega⟩
    simp only [sluicewaylaw05_WindowOnce.l0]
    by_cases hlt : i < (rows.length : Int)
    · rw [if_pos hlt, decide_eq_true (show i < 40 by omega)]
      simp only [sluicewaylaw05_WindowOnce.j1, if_true]
      rw [if_pos h0, if_pos hlt, mn_def, if_pos (by omega), if_pos (by omega), accept_f (k + 1) _ _ _ _ _ _ _ (by rw [List.length_take]; omega)]
      obtain ⟨C', P', F', c, e, ha, hr', h2, h3⟩ := acc_step C L S P F M ((rd_L1 rows i).take (min ((rd_L1 rows i).length : Int) 20).toNat) hr
      rw [ha]
      have hrb := hr'
      unfold Right at hrb
      simp only [Option.bind_some]
      have next : ∀ last', last' < C' → sluicewaylaw05_WindowOnce.l0 (k + 2) rows true last' (wrap64 (i + 1)) C' L S P' F' M = some true := by
        intro last' hl'
        rw [w64_in (by omega)]
        exact ih (k + 2) (i + 1) last' C' P' F' hr' hl' (by omega) (by omega) (by omega) (by omega)
      by_cases he : e = 0
      · obtain ⟨g1, g2, g3⟩ := h2 he
        rw [if_pos he, if_neg (by omega), if_pos (by rw [w64_in (by omega)]; exact g2), decide_eq_false (show ¬ C' < C by omega)]
        simp only [sluicewaylaw05_WindowOnce.j2, Bool.false_eq_true, if_false]
        rw [if_pos he]
        exact next c (by omega)
      · have g := h3 he
        rw [if_neg he, if_pos g, decide_eq_false (show ¬ C' < C by omega)]
        simp only [sluicewaylaw05_WindowOnce.j2, Bool.false_eq_true, if_false]
        rw [if_neg he]
        exact next last (by omega)
    · rw [if_neg hlt]
      simp only [sluicewaylaw05_WindowOnce.j1, Bool.false_eq_true, if_false]

theorem WindowOnce (C L S P F M : Int) (rows : List (List Int)) : ∃ k, sluicewaylaw05_WindowOnce.f k C L S P F M rows = some true := by
  refine ⟨300, ?_⟩
  unfold sluicewaylaw05_WindowOnce.f
  rw [is_shown, right_f]
  simp only [Option.bind_some, decide_eq_true_eq]
  by_cases hr : Right C L S P F M
  · rw [if_pos hr]
    have hr' := hr
    unfold Right at hr'
    rw [w64_in (by omega)]
    exact rounds rows L S M 40 300 0 (C - 1) C P F hr (by omega) (by omega) (by omega) (by omega) (by omega)
  · rw [if_neg hr]

end Go.Proofs.Ytijnmoceafcamaa.PureWindowOnce
