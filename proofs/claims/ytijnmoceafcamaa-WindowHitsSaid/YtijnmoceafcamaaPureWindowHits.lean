/- The row of WindowHits, on whole numbers and lists: neither the order of hits, nor how often they come, nor those out of reach count; condition: at most 2^47 bytes. -/
import Derived.Test.YtijnmoceafcamaaGWindowHitsx3
import Derived.Test.YtijnmoceafcamaaWinSpec
namespace Go.Proofs.Ytijnmoceafcamaa.PureWindowHits
open Go.RowKit Go.Proofs.Ytijnmoceafcamaa.GWindowHits Go.Proofs.YtijnmoceafcamaaW.PrintWords Go.Proofs.YtijnmoceafcamaaW.PrintLast Go.Proofs.Ytijnmoceafcamaa.Win Go.Proofs.Ytijnmoceafcamaa.First

theorem mx_def (a b : Int) : mx a b = max a b := by unfold mx; omega
theorem mn_def (a b : Int) : mn a b = min a b := by unfold mn; omega
theorem w64 (a : Int) : wrap64 a = (a + 9223372036854775808) % 18446744073709551616 - 9223372036854775808 := by unfold wrap64; omega
theorem w64_in {a : Int} (h : -9223372036854775808 ≤ a ∧ a ≤ 9223372036854775807) : wrap64 a = a := by rw [w64]; omega
theorem bnd {a : Int} (h : (Lit.int .i64 a).wf = true) : -9223372036854775808 ≤ a ∧ a ≤ 9223372036854775807 := by
  simpa [Lit.wf, IntKind.min, IntKind.max, IntKind.bits, IntKind.signed] using h

theorem in_f (a b c : Int) : window_in_int.f a b c = some (decide (b ≤ a ∧ a ≤ c)) := by
  unfold window_in_int.f
  split <;> congr 1
  · apply decide_eq_decide.2; omega
  · symm; apply decide_eq_false; omega

theorem right_f (C L S P F M : Int) : window_Right.f C L S P F M = some (decide (Right C L S P F M)) := by
  unfold window_Right.f
  simp only [in_f, Option.bind_some, decide_eq_true_eq]
  (repeat' split) <;> congr 1
  · apply decide_eq_decide.2; unfold Right; omega
  all_goals (symm; apply decide_eq_false; unfold Right; omega)

theorem first_f (l : List Int) (f t : Int) (hl : l.length ≤ 1000) : window_first.f l f t = some (first l f t) := by
  unfold window_first.f
  rw [if_pos (by omega)]

theorem accept_f (k : Nat) (C L S P F M : Int) (l : List Int) (hl : l.length ≤ 1000) : window_Accept.f (k + 2) C L S P F M l = some (acc C L S P F M l) := by
  unfold window_Accept.f acc
  rw [right_f]
  simp only [Option.bind_some, decide_eq_true_eq]
  by_cases hr : Right C L S P F M
  · rw [if_pos hr, if_pos hr]
    have hr' := hr
    unfold Right at hr'
    by_cases hf : F ≥ M
    · rw [if_pos hf, if_pos hf]
    · rw [if_neg hf, if_neg hf, w64_in (a := C + L) (by omega)]
      have j1 : ∀ b : Int × Bool, (b.2 = true → b.1 ≤ 1099511627775 ∧ 0 ≤ b.1) → window_Accept.j1 (k + 1) l (C + L) b.1 b.2 C L S P F M = some (tail C L S F M l b) := by
        intro b hb
        simp only [window_Accept.j1, tail]
        by_cases h : b.2 = true
        · rw [if_pos h, if_pos h, w64_in (by have := hb h; omega)]
        · rw [if_neg h, if_neg h, w64_in (a := C + L + 1) (by omega), w64_in (a := C + L + S) (by omega), first_f l _ _ hl]
          simp only [Option.bind_some]
          rw [w64_in (a := F + 1) (by omega)]
          rcases first_cases l (C + L + 1) (C + L + S) with ⟨h1, _⟩ | ⟨c, h1, _, h3, _⟩
          · rw [h1]; rfl
          · rw [h1]
            have hc := (hitB_iff _ _ _).1 h3
            simp only [if_true]
            rw [w64_in (by omega)]
      rw [first_f l _ _ hl]
      simp only [Option.bind_some]
      have ha : (first l C (C + L)).2 = true → (first l C (C + L)).1 ≤ 1099511627775 ∧ 0 ≤ (first l C (C + L)).1 := by
        rcases first_cases l C (C + L) with ⟨h1, _⟩ | ⟨c, h1, _, h3, _⟩
        · rw [h1]; intro h; cases h
        · rw [h1]; intro _; have hc := (hitB_iff _ _ _).1 h3; exact ⟨by simp only; omega, by simp only; omega⟩
      by_cases h2 : (first l C (C + L)).2 = true
      · rw [if_pos h2, if_neg (fun h => by rw [h2] at h; cases h.1)]
        simp only [window_Accept.j0, Bool.false_eq_true, if_false]
        exact j1 _ ha
      · rw [if_neg h2]
        have h2' : (first l C (C + L)).2 = false := by simpa using h2
        by_cases hp : P > C + L
        · rw [if_pos ⟨h2', hp⟩]
          simp only [window_Accept.j0, hp, decide_true, if_true]
          rw [first_f l _ _ hl]
          simp only [Option.bind_some]
          refine j1 _ ?_
          rcases first_cases l P P with ⟨h1, _⟩ | ⟨c, h1, _, h3, _⟩
          · rw [h1]; intro h; cases h
          · rw [h1]; intro _; have hc := (hitB_iff _ _ _).1 h3; exact ⟨by simp only; omega, by simp only; omega⟩
        · rw [if_neg (fun h => hp h.2)]
          simp only [window_Accept.j0, hp, decide_false, Bool.false_eq_true, if_false]
          exact j1 _ ha
  · rw [if_neg hr, if_neg hr]

theorem is_shown (k : Nat) : sluicewaylaw05_shown.f (k + 2) = some true := by
  unfold sluicewaylaw05_shown.f
  rw [accept_f k _ _ _ _ _ _ _ (by decide), accept_f k _ _ _ _ _ _ _ (by decide)]
  have e1 : acc 5 2 10 0 0 5 [6] = (7, 2, 10, 0, 0, 5, 6, 0) := by rfl
  have e2 : acc 5 2 10 0 0 5 [9] = (5, 2, 10, 10, 1, 5, 0, 8) := by rfl
  have e3 : acc 5 2 10 10 1 5 [10] = (11, 2, 10, 0, 0, 5, 10, 0) := by rfl
  rw [e1, e2]
  simp only [Option.bind_some]
  rw [accept_f k _ _ _ _ _ _ _ (by decide), e3]
  rfl

theorem reach_f (C L S P F M : Int) : window_Reach.f C L S P F M = some (if Right C L S P F M then (C, max (C + L + S) P) else (0, -1)) := by
  unfold window_Reach.f
  rw [right_f]
  simp only [Option.bind_some, decide_eq_true_eq]
  by_cases hr : Right C L S P F M
  · rw [if_pos hr, if_pos hr]
    unfold Right at hr
    rw [mx_def, w64_in (a := C + L) (by omega), w64_in (by omega)]
  · rw [if_neg hr, if_neg hr]

theorem accept_same (k : Nat) (C L S P F M : Int) (l l' : List Int) (hl : l.length ≤ 1000) (hl' : l'.length ≤ 1000) (h : Right C L S P F M → ∀ x, C ≤ x → x ≤ max (C + L + S) P → (x ∈ l ↔ x ∈ l')) :
    window_Accept.f (k + 2) C L S P F M l' = window_Accept.f (k + 2) C L S P F M l := by
  rw [accept_f k _ _ _ _ _ _ _ hl, accept_f k _ _ _ _ _ _ _ hl', acc_congr h]

theorem ends (k : Nat) (C L S P F M far : Int) (l back : List Int) (g : Bool) (hl : l.length ≤ 30) (hb : back.length ≤ 60) (hmem : ∀ x, x ∈ back ↔ x ∈ l) (hg : g = true → Right C L S P F M → far < C ∨ far > max (C + L + S) P) :
    sluicewaylaw05_WindowHits.j1 (k + 3) l far true back g C L S P F M = some true := by
  simp only [sluicewaylaw05_WindowHits.j1]
  by_cases h : g = true
  · rw [if_pos h, if_pos (by omega), accept_same k C L S P F M l (back ++ [far]) (by omega) (by simp; omega), accept_f k _ _ _ _ _ _ _ (by omega)]
    · simp
    · intro hr x h1 h2
      have := hg h hr
      rw [List.mem_append, hmem, List.mem_singleton]
      constructor
      · exact Or.inl
      · rintro (h | h)
        · exact h
        · omega
  · rw [if_neg h, accept_same k C L S P F M l back (by omega) (by omega) (fun _ x _ _ => (hmem x).symm), accept_f k _ _ _ _ _ _ _ (by omega)]
    simp

theorem rd_mem (l : List Int) (i : Int) (h0 : 0 ≤ i) (h1 : i < l.length) : rd l i = l[i.toNat]'(by omega) := by
  unfold rd
  rw [List.getD_eq_getElem?_getD, List.getElem?_eq_getElem (by omega)]
  rfl

theorem rounds (l : List Int) (C L S P F M far : Int) (hl : l.length ≤ 30) : ∀ (d : Nat) (k : Nat) (i : Int) (back : List Int), -1 ≤ i → i < l.length → i + 1 = d → d + 6 ≤ k → back.length + 2 * d ≤ 60 →
    (∀ x, x ∈ back ↔ x ∈ l.drop (i + 1).toNat) → sluicewaylaw05_WindowHits.l0 k l far true back i C L S P F M = some true := by
  intro d
  induction d with
  | zero =>
    intro k i back h0 h1 hd hk hb hmem
    obtain ⟨k, rfl⟩ : ∃ m, k = m + 4 := ⟨k - 4, by omega⟩
    have hi : (i + 1).toNat = 0 := by omega
    rw [hi, List.drop_zero] at hmem
    simp only [sluicewaylaw05_WindowHits.l0]
    rw [if_neg (by omega), reach_f]
    simp only [Option.bind_some]
    by_cases hr : Right C L S P F M
    · rw [if_pos hr]
      simp only
      split
      · exact ends k C L S P F M far l back true hl (by omega) hmem (fun _ _ => by omega)
      · exact ends k C L S P F M far l back _ hl (by omega) hmem (fun h _ => by have := of_decide_eq_true h; omega)
    · rw [if_neg hr]
      split
      · exact ends k C L S P F M far l back true hl (by omega) hmem (fun _ h => absurd h hr)
      · exact ends k C L S P F M far l back _ hl (by omega) hmem (fun _ h => absurd h hr)
  | succ d ih =>
    intro k i back h0 h1 hd hk hb hmem
    obtain ⟨k, rfl⟩ : ∃ m, k = m + 1 := ⟨k - 1, by omega⟩
    simp only [sluicewaylaw05_WindowHits.l0]
    rw [if_pos (by omega), if_pos (by omega), if_pos h1]
    simp only [Option.bind_some]
    rw [if_pos (by simp only [List.length_cons, List.length_nil]; omega), w64_in (by omega)]
    refine ih k (i - 1) _ (by omega) (by omega) (by omega) (by omega) (by simp only [List.length_append, List.length_cons, List.length_nil]; omega) ?_
    intro x
    have e : (i - 1 + 1).toNat = i.toNat := by omega
    have e2 : (i + 1).toNat = i.toNat + 1 := by omega
    rw [e2] at hmem
    rw [e, List.drop_eq_getElem_cons (by omega), List.mem_append, hmem, List.mem_cons, rd_mem l i (by omega) h1]
    simp only [List.mem_cons, List.not_mem_nil, or_false, or_self]
    exact Or.comm

theorem WindowHits (C L S P F M : Int) (l : List Int) (far : Int) : ∃ k, sluicewaylaw05_WindowHits.f k C L S P F M l far = some true := by
  refine ⟨100, ?_⟩
  unfold sluicewaylaw05_WindowHits.f
  rw [is_shown]
  simp only [Option.bind_some, mn_def]
  rw [if_pos (by omega), if_pos (by omega)]
  have hlen : (l.take (min (l.length : Int) 30).toNat).length ≤ 30 := by rw [List.length_take]; omega
  rw [w64_in (by omega)]
  refine rounds _ C L S P F M far hlen (l.take (min (l.length : Int) 30).toNat).length 100 _ [] (by omega) (by omega) (by omega) (by omega) (by simp; omega) ?_
  intro x
  rw [show (((l.take (min (l.length : Int) 30).toNat).length : Int) - 1 + 1).toNat = (l.take (min (l.length : Int) 30).toNat).length by omega, List.drop_length]

end Go.Proofs.Ytijnmoceafcamaa.PureWindowHits
