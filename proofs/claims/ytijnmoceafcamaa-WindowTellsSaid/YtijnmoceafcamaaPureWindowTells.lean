/- The row of WindowTells, on whole numbers and lists: Right, Reach and Accept are what the reference says; no condition. -/
import Derived.Test.YtijnmoceafcamaaGWindowTellsx5
import Derived.Test.YtijnmoceafcamaaWinSpec
namespace Go.Proofs.Ytijnmoceafcamaa.PureWindowTells
open Go.RowKit Go.Proofs.Ytijnmoceafcamaa.GWindowTells Go.Proofs.YtijnmoceafcamaaW.PrintWords Go.Proofs.YtijnmoceafcamaaW.PrintLast Go.Proofs.Ytijnmoceafcamaa.Win Go.Proofs.Ytijnmoceafcamaa.First

theorem mx_def (a b : Int) : mx a b = max a b := by unfold mx; omega
theorem mn_def (a b : Int) : mn a b = min a b := by unfold mn; omega
theorem w64 (a : Int) : wrap64 a = (a + 9223372036854775808) % 18446744073709551616 - 9223372036854775808 := by unfold wrap64; omega
theorem w64_in {a : Int} (h : -9223372036854775808 ≤ a ∧ a ≤ 9223372036854775807) : wrap64 a = a := by rw [w64]; omega
theorem bnd {a : Int} (h : (Lit.int .i64 a).wf = true) : -9223372036854775808 ≤ a ∧ a ≤ 9223372036854775807 := by
  simpa [Lit.wf, IntKind.min, IntKind.max, IntKind.bits, IntKind.signed] using h

theorem in_f (a b c : Int) : window_in_int.f a b c = some (decide (b ≤ a ∧ a ≤ c)) := by
  unfold window_in_int.f
  split <;> congr 1
  · apply decide_eq_decide.2; omega
  · symm; apply decide_eq_false; omega

theorem right_f (C L S P F M : Int) : window_Right.f C L S P F M = some (decide (Right C L S P F M)) := by
  unfold window_Right.f
  simp only [in_f, Option.bind_some, decide_eq_true_eq]
  (repeat' split) <;> congr 1
  · apply decide_eq_decide.2; unfold Right; omega
  all_goals (symm; apply decide_eq_false; unfold Right; omega)

theorem first_f (l : List Int) (f t : Int) (hl : l.length ≤ 1000) : window_first.f l f t = some (first l f t) := by
  unfold window_first.f
  rw [if_pos (by omega)]

theorem accept_f (k : Nat) (C L S P F M : Int) (l : List Int) (hl : l.length ≤ 1000) : window_Accept.f (k + 2) C L S P F M l = some (acc C L S P F M l) := by
  unfold window_Accept.f acc
  rw [right_f]
  simp only [Option.bind_some, decide_eq_true_eq]
  by_cases hr : Right C L S P F M
  · rw [if_pos hr, if_pos hr]
    have hr' := hr
    unfold Right at hr'
    by_cases hf : F ≥ M
    · rw [if_pos hf, if_pos hf]
    · rw [if_neg hf, if_neg hf, w64_in (a := C + L) (by omega)]
      have j1 : ∀ b : Int × Bool, (b.2 = true → b.1 ≤ 1099511627775 ∧ 0 ≤ b.1) → window_Accept.j1 (k + 1) l (C + L) b.1 b.2 C L S P F M = some (tail C L S F M l b) := by
        intro b hb
        simp only [window_Accept.j1, tail]
        by_cases h : b.2 = true
        · rw [if_pos h, if_pos h, w64_in (by have := hb h; omega)]
        · rw [if_neg h, if_neg h, w64_in (a := C + L + 1) (by omega), w64_in (a := C + L + S) (by omega), first_f l _ _ hl]
          simp only [Option.bind_some]
          rw [w64_in (a := F + 1) (by omega)]
          rcases first_cases l (C + L + 1) (C + L + S) with ⟨h1, _⟩ | ⟨c, h1, _, h3, _⟩
          · rw [h1]; rfl
          · rw [h1]
            have hc := (hitB_iff _ _ _).1 h3
            simp only [if_true]
            rw [w64_in (by omega)]
      rw [first_f l _ _ hl]
      simp only [Option.bind_some]
      have ha : (first l C (C + L)).2 = true → (first l C (C + L)).1 ≤ 1099511627775 ∧ 0 ≤ (first l C (C + L)).1 := by
        rcases first_cases l C (C + L) with ⟨h1, _⟩ | ⟨c, h1, _, h3, _⟩
        · rw [h1]; intro h; cases h
        · rw [h1]; intro _; have hc := (hitB_iff _ _ _).1 h3; exact ⟨by simp only; omega, by simp only; omega⟩
      by_cases h2 : (first l C (C + L)).2 = true
      · rw [if_pos h2, if_neg (fun h => by rw [h2] at h; cases h.1)]
        simp only [window_Accept.j0, Bool.false_eq_true, if_false]
        exact j1 _ ha
      · rw [if_neg h2]
        have h2' : (first l C (C + L)).2 = false := by simpa using h2
        by_cases hp : P > C + L
        · rw [if_pos ⟨h2', hp⟩]
          simp only [window_Accept.j0, hp, decide_true, if_true]
          rw [first_f l _ _ hl]
          simp only [Option.bind_some]
          refine j1 _ ?_
          rcases first_cases l P P with ⟨h1, _⟩ | ⟨c, h1, _, h3, _⟩
          · rw [h1]; intro h; cases h
          · rw [h1]; intro _; have hc := (hitB_iff _ _ _).1 h3; exact ⟨by simp only; omega, by simp only; omega⟩
        · rw [if_neg (fun h => hp h.2)]
          simp only [window_Accept.j0, hp, decide_false, Bool.false_eq_true, if_false]
          exact j1 _ ha
  · rw [if_neg hr, if_neg hr]

theorem is_shown (k : Nat) : sluicewaylaw05_shown.f (k + 2) = some true := by
  unfold sluicewaylaw05_shown.f
  rw [accept_f k _ _ _ _ _ _ _ (by decide), accept_f k _ _ _ _ _ _ _ (by decide)]
  have e1 : acc 5 2 10 0 0 5 [6] = (7, 2, 10, 0, 0, 5, 6, 0) := by rfl
  have e2 : acc 5 2 10 0 0 5 [9] = (5, 2, 10, 10, 1, 5, 0, 8) := by rfl
  have e3 : acc 5 2 10 10 1 5 [10] = (11, 2, 10, 0, 0, 5, 10, 0) := by rfl
  rw [e1, e2]
  simp only [Option.bind_some]
  rw [accept_f k _ _ _ _ _ _ _ (by decide), e3]
  rfl

theorem right_ref (C L S P F M : Int) : sluicewayref05_Right.f C L S P F M = some (decide (Right C L S P F M)) := by
  unfold sluicewayref05_Right.f
  (repeat' split) <;> congr 1
  · apply decide_eq_decide.2; unfold Right; omega
  all_goals (symm; apply decide_eq_false; unfold Right; omega)

theorem rd_mem (l : List Int) (i : Int) (h0 : 0 ≤ i) (h1 : i < l.length) : rd l i = l[i.toNat]'(by omega) := by
  unfold rd
  rw [List.getD_eq_getElem?_getD, List.getElem?_eq_getElem (by omega)]
  rfl

/-- What the reference's loop holds: the least of the hits so far, or -1. -/
def Best (l : List Int) (f t b : Int) : Prop := (b = -1 ∧ ∀ x ∈ l, hitB f t x = false) ∨ (b ∈ l ∧ hitB f t b = true ∧ ∀ x ∈ l, hitB f t x = true → b ≤ x)

theorem best_step (l : List Int) (f t b y : Int) (h : Best l f t b) (hf : 0 ≤ f) :
    Best (l ++ [y]) f t (if f ≤ y ∧ y ≤ t ∧ y < 1099511627776 ∧ (b < 0 ∨ y < b) then y else b) := by
  unfold Best
  have hy := hitB_iff f t y
  rcases h with ⟨rfl, h⟩ | ⟨h1, h2, h3⟩
  · by_cases hc : hitB f t y = true
    · have hy' := hy.1 hc
      rw [if_pos (by omega)]
      right
      refine ⟨by simp, hc, fun x hx hb => ?_⟩
      rcases List.mem_append.1 hx with hx | hx
      · rw [h x hx] at hb; cases hb
      · rw [List.mem_singleton] at hx; omega
    · rw [if_neg (fun hh => hc (hy.2 (by omega)))]
      left
      refine ⟨rfl, fun x hx => ?_⟩
      rcases List.mem_append.1 hx with hx | hx
      · exact h x hx
      · rw [List.mem_singleton] at hx; rw [hx]; simpa using hc
  · have hb := (hitB_iff f t b).1 h2
    by_cases hc : hitB f t y = true ∧ y < b
    · have hy' := hy.1 hc.1
      rw [if_pos (by omega)]
      right
      refine ⟨by simp, hc.1, fun x hx hb => ?_⟩
      rcases List.mem_append.1 hx with hx | hx
      · have := h3 x hx hb; omega
      · rw [List.mem_singleton] at hx; omega
    · rw [if_neg (fun hh => hc ⟨hy.2 (by omega), by omega⟩)]
      right
      refine ⟨List.mem_append_left _ h1, h2, fun x hx hb2 => ?_⟩
      rcases List.mem_append.1 hx with hx | hx
      · exact h3 x hx hb2
      · rw [List.mem_singleton] at hx
        subst hx
        by_cases hlt : x < b
        · exact absurd ⟨hb2, hlt⟩ hc
        · omega

theorem least_rounds (l : List Int) (f t : Int) (hf : 0 ≤ f) (hl : l.length ≤ 1000) : ∀ (d : Nat) (k : Nat) (i b : Int), 0 ≤ i → i ≤ l.length → (l.length : Int) - i = d → d < k → Best (l.take i.toNat) f t b →
    ∃ r, sluicewayref05_least.l0 k l f t b i = some r ∧ Best l f t r := by
  intro d
  induction d with
  | zero =>
    intro k i b h0 h1 hd hk hb
    obtain ⟨k, rfl⟩ : ∃ m, k = m + 1 := ⟨k - 1, by omega⟩
    simp only [sluicewayref05_least.l0]
    rw [if_neg (by omega)]
    rw [List.take_of_length_le (by omega)] at hb
    exact ⟨b, rfl, hb⟩
  | succ d ih =>
    intro k i b h0 h1 hd hk hb
    obtain ⟨k, rfl⟩ : ∃ m, k = m + 1 := ⟨k - 1, by omega⟩
    have hlt : i < (l.length : Int) := by omega
    have hs := best_step _ f t b (rd l i) hb hf
    have e : l.take i.toNat ++ [rd l i] = l.take (i + 1).toNat := by
      rw [show (i + 1).toNat = i.toNat + 1 by omega, List.take_succ_eq_append_getElem (by omega), rd_mem l i h0 hlt]
    rw [e] at hs
    obtain ⟨r, hr, hbest⟩ := ih k (i + 1) _ (by omega) (by omega) (by omega) (by omega) hs
    refine ⟨r, ?_, hbest⟩
    rw [← hr]
    simp only [sluicewayref05_least.l0]
    rw [if_pos hlt, if_pos h0, w64_in (a := i + 1) (by omega)]
    (repeat' split) <;> first | rfl | omega

theorem least_f (k : Nat) (l : List Int) (f t : Int) (hf : 0 ≤ f) (hl : l.length ≤ 1000) (hk : 1001 ≤ k) :
    sluicewayref05_least.f k l f t = some (if (first l f t).2 = true then (first l f t).1 else -1) := by
  unfold sluicewayref05_least.f
  obtain ⟨r, hr, hb⟩ := least_rounds l f t hf hl l.length k 0 (-1) (by omega) (by omega) (by omega) (by omega) (.inl ⟨rfl, fun x hx => by simp at hx⟩)
  rw [hr]
  congr 1
  rcases first_cases l f t with ⟨h1, h2⟩ | ⟨c, h1, h2, h3, h4⟩
  · rw [h1]
    simp only [Bool.false_eq_true, if_false]
    rcases hb with ⟨rfl, _⟩ | ⟨g1, g2, _⟩
    · rfl
    · rw [h2 r g1] at g2; cases g2
  · rw [h1]
    simp only [if_true]
    rcases hb with ⟨_, g⟩ | ⟨g1, g2, g3⟩
    · rw [g c h2] at h3; cases h3
    · have := h4 r g1 g2
      have := g3 c h2 h3
      omega

theorem accept_ref (k : Nat) (C L S P F M : Int) (l : List Int) (hl : l.length ≤ 1000) (hk : 1001 ≤ k) : sluicewayref05_Accept.f (k + 2) C L S P F M l = some (acc C L S P F M l) := by
  unfold sluicewayref05_Accept.f acc
  rw [right_ref]
  simp only [Option.bind_some, decide_eq_true_eq]
  by_cases hr : Right C L S P F M
  · rw [if_pos hr, if_pos hr]
    have hr' := hr
    unfold Right at hr'
    by_cases hf : F ≥ M
    · rw [if_pos hf, if_pos hf]
    · rw [if_neg hf, if_neg hf, w64_in (a := C + L) (by omega)]
      have j1 : ∀ (b : Int × Bool) (n : Int), (b.2 = true → b.1 ≤ 1099511627775 ∧ 0 ≤ b.1) → n = (if b.2 = true then b.1 else -1) → sluicewayref05_Accept.j1 (k + 1) l (C + L) n C L S P F M = some (tail C L S F M l b) := by
        intro b n hb hn
        simp only [sluicewayref05_Accept.j1, tail]
        by_cases h : b.2 = true
        · rw [if_pos h] at hn
          have := hb h
          rw [if_pos h, if_pos (by omega), hn, w64_in (by omega)]
        · rw [if_neg h] at hn
          rw [if_neg h, if_neg (by omega), w64_in (a := C + L + 1) (by omega), w64_in (a := C + L + S) (by omega), least_f k l _ _ (by omega) hl hk]
          simp only [Option.bind_some]
          rw [w64_in (a := F + 1) (by omega)]
          rcases first_cases l (C + L + 1) (C + L + S) with ⟨h1, _⟩ | ⟨c, h1, _, h3, _⟩
          · rw [h1]; rfl
          · rw [h1]
            have hc := (hitB_iff _ _ _).1 h3
            simp only [if_true]
            rw [if_pos (by omega), w64_in (by omega)]
      rw [least_f _ l _ _ (by omega) hl (by omega)]
      simp only [Option.bind_some]
      have ha : (first l C (C + L)).2 = true → (first l C (C + L)).1 ≤ 1099511627775 ∧ 0 ≤ (first l C (C + L)).1 := by
        rcases first_cases l C (C + L) with ⟨h1, _⟩ | ⟨c, h1, _, h3, _⟩
        · rw [h1]; intro h; cases h
        · rw [h1]; intro _; have hc := (hitB_iff _ _ _).1 h3; exact ⟨by simp only; omega, by simp only; omega⟩
      by_cases h2 : (first l C (C + L)).2 = true
      · have hn := ha h2
        rw [if_pos h2, if_neg (by omega), if_neg (fun h => by rw [h2] at h; cases h.1)]
        simp only [sluicewayref05_Accept.j0, Bool.false_eq_true, if_false]
        exact j1 _ _ ha (by rw [if_pos h2])
      · rw [if_neg h2, if_pos (by omega)]
        have h2' : (first l C (C + L)).2 = false := by simpa using h2
        by_cases hp : P > C + L
        · rw [if_pos ⟨h2', hp⟩]
          simp only [sluicewayref05_Accept.j0, hp, decide_true, if_true]
          rw [least_f _ l _ _ (by omega) hl (by omega)]
          simp only [Option.bind_some]
          refine j1 _ _ ?_ rfl
          rcases first_cases l P P with ⟨h1, _⟩ | ⟨c, h1, _, h3, _⟩
          · rw [h1]; intro h; cases h
          · rw [h1]; intro _; have hc := (hitB_iff _ _ _).1 h3; exact ⟨by simp only; omega, by simp only; omega⟩
        · rw [if_neg (fun h => hp h.2)]
          simp only [sluicewayref05_Accept.j0, hp, decide_false, Bool.false_eq_true, if_false]
          exact j1 _ _ ha (by rw [if_neg h2])
  · rw [if_neg hr, if_neg hr]

theorem reach_same (C L S P F M : Int) : ∃ a b, window_Reach.f C L S P F M = some (a, b) ∧ sluicewayref05_Reach.f C L S P F M = some (a, b) := by
  unfold window_Reach.f sluicewayref05_Reach.f
  rw [right_f, right_ref]
  simp only [Option.bind_some]
  split <;> exact ⟨_, _, rfl, rfl⟩

theorem WindowTells (C L S P F M : Int) (l : List Int) : ∃ k, sluicewaylaw05_WindowTells.f k C L S P F M l = some true := by
  refine ⟨1003, ?_⟩
  unfold sluicewaylaw05_WindowTells.f
  obtain ⟨a, b, h1, h2⟩ := reach_same C L S P F M
  have hlen : (l.take (min (l.length : Int) 60).toNat).length ≤ 60 := by rw [List.length_take]; omega
  rw [is_shown 1001]
  simp only [Option.bind_some, mn_def, List.nil_append]
  rw [if_pos (by omega), if_pos (by omega), if_pos (by simp only [List.length_nil]; omega), accept_f 1001 _ _ _ _ _ _ _ (by omega), accept_ref 1001 _ _ _ _ _ _ _ (by omega) (by omega), h1, h2, right_f, right_ref]
  simp

end Go.Proofs.Ytijnmoceafcamaa.PureWindowTells
