/- What becomes of a token, on whole numbers and lists alone: the least hit, what Accept answers, and that only the hits in reach count. No condition. -/
import Derived.Test.YtijnmoceafcamaaFirst
namespace Go.Proofs.Ytijnmoceafcamaa.Win
open Go.Proofs.Ytijnmoceafcamaa.First Go.RowKit

theorem foldl_min : ∀ (l : List Int) (a : Int), (l.foldl min a = a ∨ l.foldl min a ∈ l) ∧ l.foldl min a ≤ a ∧ ∀ x ∈ l, l.foldl min a ≤ x
  | [], a => ⟨.inl rfl, Int.le_refl _, fun x h => by cases h⟩
  | y :: r, a => by
    obtain ⟨h1, h2, h3⟩ := foldl_min r (min a y)
    simp only [List.foldl_cons]
    refine ⟨?_, by omega, fun x hx => ?_⟩
    · rcases h1 with h | h
      · rw [h]
        by_cases hc : a ≤ y
        · left; omega
        · right; rw [show min a y = y by omega]; exact List.mem_cons_self
      · exact .inr (List.mem_cons_of_mem _ h)
    · rcases List.mem_cons.1 hx with rfl | hx
      · omega
      · exact h3 x hx

theorem minOf_spec (l : List Int) (h : l ≠ []) : Lib.minOf l ∈ l ∧ ∀ x ∈ l, Lib.minOf l ≤ x := by
  cases l with
  | nil => exact absurd rfl h
  | cons y r =>
    unfold Lib.minOf
    simp only [List.headD_cons, List.foldl_cons, Int.min_self]
    obtain ⟨h1, h2, h3⟩ := foldl_min r y
    refine ⟨?_, fun x hx => ?_⟩
    · rcases h1 with h | h
      · rw [h]; exact List.mem_cons_self
      · exact List.mem_cons_of_mem _ h
    · rcases List.mem_cons.1 hx with rfl | hx
      · exact h2
      · exact h3 x hx

theorem first_cases (l : List Int) (f t : Int) : (first l f t = (0, false) ∧ ∀ x ∈ l, hitB f t x = false) ∨ ∃ c, first l f t = (c, true) ∧ c ∈ l ∧ hitB f t c = true ∧ ∀ x ∈ l, hitB f t x = true → c ≤ x := by
  unfold first
  by_cases h : flt l f t = []
  · left
    rw [if_pos h]
    refine ⟨rfl, fun x hx => ?_⟩
    cases hb : hitB f t x with
    | false => rfl
    | true =>
      have : x ∈ flt l f t := List.mem_filter.2 ⟨hx, hb⟩
      rw [h] at this; cases this
  · right
    rw [if_neg h]
    obtain ⟨h1, h2⟩ := minOf_spec _ h
    obtain ⟨h3, h4⟩ := List.mem_filter.1 h1
    exact ⟨_, rfl, h3, h4, fun x hx hb => h2 x (List.mem_filter.2 ⟨hx, hb⟩)⟩

theorem hitB_iff (f t x : Int) : hitB f t x = true ↔ f ≤ x ∧ x ≤ t ∧ x ≤ 1099511627775 := by
  unfold hitB
  rw [Bool.and_eq_true, decide_eq_true_eq, decide_eq_true_eq]
  omega

theorem first_congr {l l' : List Int} {f t : Int} (h : ∀ x, f ≤ x → x ≤ t → (x ∈ l ↔ x ∈ l')) : first l f t = first l' f t := by
  rcases first_cases l f t with ⟨h1, h2⟩ | ⟨c, h1, h2, h3, h4⟩ <;> rcases first_cases l' f t with ⟨k1, k2⟩ | ⟨d, k1, k2, k3, k4⟩
  · rw [h1, k1]
  · exfalso
    have hd := (hitB_iff f t d).1 k3
    have := h2 d ((h d hd.1 hd.2.1).2 k2)
    rw [this] at k3; cases k3
  · exfalso
    have hc := (hitB_iff f t c).1 h3
    have := k2 c ((h c hc.1 hc.2.1).1 h2)
    rw [this] at h3; cases h3
  · have hd := (hitB_iff f t d).1 k3
    have hc := (hitB_iff f t c).1 h3
    have e1 := h4 d ((h d hd.1 hd.2.1).2 k2) k3
    have e2 := k4 c ((h c hc.1 hc.2.1).1 h2) h3
    rw [h1, k1, show c = d by omega]

theorem first_nil (f t : Int) : first [] f t = (0, false) := rfl

def Right (C L S P F M : Int) : Prop := 0 ≤ C ∧ C ≤ 1099511627776 ∧ 0 ≤ L ∧ L ≤ 20 ∧ 0 ≤ S ∧ S ≤ 50 ∧ 0 ≤ P ∧ P ≤ 1099511627976 ∧ 0 ≤ F ∧ 1 ≤ M ∧ M ≤ 100
instance (C L S P F M : Int) : Decidable (Right C L S P F M) := inferInstanceAs (Decidable (0 ≤ C ∧ C ≤ 1099511627776 ∧ 0 ≤ L ∧ L ≤ 20 ∧ 0 ≤ S ∧ S ≤ 50 ∧ 0 ≤ P ∧ P ≤ 1099511627976 ∧ 0 ≤ F ∧ 1 ≤ M ∧ M ≤ 100))

def tail (C L S F M : Int) (l : List Int) (b : Int × Bool) : Int × Int × Int × Int × Int × Int × Int × Int :=
  if b.2 = true then (b.1 + 1, L, S, 0, 0, M, b.1, 0)
  else if (first l (C + L + 1) (C + L + S)).2 = true then (C, L, S, (first l (C + L + 1) (C + L + S)).1 + 1, F + 1, M, 0, 8) else (C, L, S, 0, F + 1, M, 0, 6)

/-- What Accept answers. -/
def acc (C L S P F M : Int) (l : List Int) : Int × Int × Int × Int × Int × Int × Int × Int :=
  if Right C L S P F M then
    if F ≥ M then (C, L, S, P, F, M, 0, 7)
    else tail C L S F M l (if (first l C (C + L)).2 = false ∧ P > C + L then first l P P else first l C (C + L))
  else (C, L, S, P, F, M, 0, 1)

/-- Only the hits in reach count. -/
theorem acc_congr {C L S P F M : Int} {l l' : List Int} (h : Right C L S P F M → ∀ x, C ≤ x → x ≤ max (C + L + S) P → (x ∈ l ↔ x ∈ l')) : acc C L S P F M l = acc C L S P F M l' := by
  unfold acc
  by_cases hr : Right C L S P F M
  · rw [if_pos hr, if_pos hr]
    have h' := h hr
    unfold Right at hr
    have e1 : first l C (C + L) = first l' C (C + L) := first_congr fun x h1 h2 => h' x h1 (by omega)
    have e3 : first l (C + L + 1) (C + L + S) = first l' (C + L + 1) (C + L + S) := first_congr fun x h1 h2 => h' x (by omega) (by omega)
    rw [e1]
    by_cases hc : (first l' C (C + L)).2 = false ∧ P > C + L
    · have e2 : first l P P = first l' P P := first_congr fun x h1 h2 => h' x (by omega) (by omega)
      rw [if_pos hc, if_pos hc, e2]
      unfold tail
      rw [e3]
    · rw [if_neg hc, if_neg hc]
      unfold tail
      rw [e3]
  · rw [if_neg hr, if_neg hr]
end Go.Proofs.Ytijnmoceafcamaa.Win
