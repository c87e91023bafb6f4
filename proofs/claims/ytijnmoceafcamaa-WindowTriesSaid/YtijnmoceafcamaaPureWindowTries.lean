/- The row of WindowTries, on whole numbers and lists: what Try answers is what Accept answers of all hits; condition: Pending is a whole number of 64 bits, the key has bytes. -/
import Derived.Test.YtijnmoceafcamaaGWindowTriesx6
import Derived.Test.YtijnmoceafcamaaWinSpec
namespace Go.Proofs.Ytijnmoceafcamaa.PureWindowTries
open Go.RowKit Go.Proofs.Ytijnmoceafcamaa.GWindowTries Go.Proofs.YtijnmoceafcamaaW.PrintWords Go.Proofs.YtijnmoceafcamaaW.PrintLast Go.Proofs.Ytijnmoceafcamaa.Win Go.Proofs.Ytijnmoceafcamaa.First

theorem mx_def (a b : Int) : mx a b = max a b := by unfold mx; omega
theorem mn_def (a b : Int) : mn a b = min a b := by unfold mn; omega
theorem w64 (a : Int) : wrap64 a = (a + 9223372036854775808) % 18446744073709551616 - 9223372036854775808 := by unfold wrap64; omega
theorem w64_in {a : Int} (h : -9223372036854775808 ≤ a ∧ a ≤ 9223372036854775807) : wrap64 a = a := by rw [w64]; omega
theorem bnd {a : Int} (h : (Lit.int .i64 a).wf = true) : -9223372036854775808 ≤ a ∧ a ≤ 9223372036854775807 := by
  simpa [Lit.wf, IntKind.min, IntKind.max, IntKind.bits, IntKind.signed] using h

theorem in_f (a b c : Int) : window_in_int.f a b c = some (decide (b ≤ a ∧ a ≤ c)) := by
  unfold window_in_int.f
  split <;> congr 1
  · apply decide_eq_decide.2; omega
  · symm; apply decide_eq_false; omega

theorem right_f (C L S P F M : Int) : window_Right.f C L S P F M = some (decide (Right C L S P F M)) := by
  unfold window_Right.f
  simp only [in_f, Option.bind_some, decide_eq_true_eq]
  (repeat' split) <;> congr 1
  · apply decide_eq_decide.2; unfold Right; omega
  all_goals (symm; apply decide_eq_false; unfold Right; omega)

theorem first_f (l : List Int) (f t : Int) (hl : l.length ≤ 1000) : window_first.f l f t = some (first l f t) := by
  unfold window_first.f
  rw [if_pos (by omega)]

theorem accept_f (k : Nat) (C L S P F M : Int) (l : List Int) (hl : l.length ≤ 1000) : window_Accept.f (k + 2) C L S P F M l = some (acc C L S P F M l) := by
  unfold window_Accept.f acc
  rw [right_f]
  simp only [Option.bind_some, decide_eq_true_eq]
  by_cases hr : Right C L S P F M
  · rw [if_pos hr, if_pos hr]
    have hr' := hr
    unfold Right at hr'
    by_cases hf : F ≥ M
    · rw [if_pos hf, if_pos hf]
    · rw [if_neg hf, if_neg hf, w64_in (a := C + L) (by omega)]
      have j1 : ∀ b : Int × Bool, (b.2 = true → b.1 ≤ 1099511627775 ∧ 0 ≤ b.1) → window_Accept.j1 (k + 1) l (C + L) b.1 b.2 C L S P F M = some (tail C L S F M l b) := by
        intro b hb
        simp only [window_Accept.j1, tail]
        by_cases h : b.2 = true
        · rw [if_pos h, if_pos h, w64_in (by have := hb h; omega)]
        · rw [if_neg h, if_neg h, w64_in (a := C + L + 1) (by omega), w64_in (a := C + L + S) (by omega), first_f l _ _ hl]
          simp only [Option.bind_some]
          rw [w64_in (a := F + 1) (by omega)]
          rcases first_cases l (C + L + 1) (C + L + S) with ⟨h1, _⟩ | ⟨c, h1, _, h3, _⟩
          · rw [h1]; rfl
          · rw [h1]
            have hc := (hitB_iff _ _ _).1 h3
            simp only [if_true]
            rw [w64_in (by omega)]
      rw [first_f l _ _ hl]
      simp only [Option.bind_some]
      have ha : (first l C (C + L)).2 = true → (first l C (C + L)).1 ≤ 1099511627775 ∧ 0 ≤ (first l C (C + L)).1 := by
        rcases first_cases l C (C + L) with ⟨h1, _⟩ | ⟨c, h1, _, h3, _⟩
        · rw [h1]; intro h; cases h
        · rw [h1]; intro _; have hc := (hitB_iff _ _ _).1 h3; exact ⟨by simp only; omega, by simp only; omega⟩
      by_cases h2 : (first l C (C + L)).2 = true
      · rw [if_pos h2, if_neg (fun h => by rw [h2] at h; cases h.1)]
        simp only [window_Accept.j0, Bool.false_eq_true, if_false]
        exact j1 _ ha
      · rw [if_neg h2]
        have h2' : (first l C (C + L)).2 = false := by simpa using h2
        by_cases hp : P > C + L
        · rw [if_pos ⟨h2', hp⟩]
          simp only [window_Accept.j0, hp, decide_true, if_true]
          rw [first_f l _ _ hl]
          simp only [Option.bind_some]
          refine j1 _ ?_
          rcases first_cases l P P with ⟨h1, _⟩ | ⟨c, h1, _, h3, _⟩
          · rw [h1]; intro h; cases h
          · rw [h1]; intro _; have hc := (hitB_iff _ _ _).1 h3; exact ⟨by simp only; omega, by simp only; omega⟩
        · rw [if_neg (fun h => hp h.2)]
          simp only [window_Accept.j0, hp, decide_false, Bool.false_eq_true, if_false]
          exact j1 _ ha
  · rw [if_neg hr, if_neg hr]

theorem is_shown (k : Nat) : sluicewaylaw05_shown.f (k + 2) = some true := by
  unfold sluicewaylaw05_shown.f
  rw [accept_f k _ _ _ _ _ _ _ (by decide), accept_f k _ _ _ _ _ _ _ (by decide)]
  have e1 : acc 5 2 10 0 0 5 [6] = (7, 2, 10, 0, 0, 5, 6, 0) := by rfl
  have e2 : acc 5 2 10 0 0 5 [9] = (5, 2, 10, 10, 1, 5, 0, 8) := by rfl
  have e3 : acc 5 2 10 10 1 5 [10] = (11, 2, 10, 0, 0, 5, 10, 0) := by rfl
  rw [e1, e2]
  simp only [Option.bind_some]
  rw [accept_f k _ _ _ _ _ _ _ (by decide), e3]
  rfl

theorem right_ref (C L S P F M : Int) : sluicewayref05_Right.f C L S P F M = some (decide (Right C L S P F M)) := by
  unfold sluicewayref05_Right.f
  (repeat' split) <;> congr 1
  · apply decide_eq_decide.2; unfold Right; omega
  all_goals (symm; apply decide_eq_false; unfold Right; omega)

theorem rd_mem (l : List Int) (i : Int) (h0 : 0 ≤ i) (h1 : i < l.length) : rd l i = l[i.toNat]'(by omega) := by
  unfold rd
  rw [List.getD_eq_getElem?_getD, List.getElem?_eq_getElem (by omega)]
  rfl

/-- What the reference's loop holds: the least of the hits so far, or -1. -/
def Best (l : List Int) (f t b : Int) : Prop := (b = -1 ∧ ∀ x ∈ l, hitB f t x = false) ∨ (b ∈ l ∧ hitB f t b = true ∧ ∀ x ∈ l, hitB f t x = true → b ≤ x)

theorem best_step (l : List Int) (f t b y : Int) (h : Best l f t b) (hf : 0 ≤ f) :
    Best (l ++ [y]) f t (if f ≤ y ∧ y ≤ t ∧ y < 1099511627776 ∧ (b < 0 ∨ y < b) then y else b) := by
  unfold Best
  have hy := hitB_iff f t y
  rcases h with ⟨rfl, h⟩ | ⟨h1, h2, h3⟩
  · by_cases hc : hitB f t y = true
    · have hy' := hy.1 hc
      rw [if_pos (by omega)]
      right
      refine ⟨by simp, hc, fun x hx hb => ?_⟩
      rcases List.mem_append.1 hx with hx | hx
      · rw [h x hx] at hb; cases hb
      · rw [List.mem_singleton] at hx; omega
    · rw [if_neg (fun hh => hc (hy.2 (by omega)))]
      left
      refine ⟨rfl, fun x hx => ?_⟩
      rcases List.mem_append.1 hx with hx | hx
      · exact h x hx
      · rw [List.mem_singleton] at hx; rw [hx]; simpa using hc
  · have hb := (hitB_iff f t b).1 h2
    by_cases hc : hitB f t y = true ∧ y < b
    · have hy' := hy.1 hc.1
      rw [if_pos (by omega)]
      right
      refine ⟨by simp, hc.1, fun x hx hb => ?_⟩
      rcases List.mem_append.1 hx with hx | hx
      · have := h3 x hx hb; omega
      · rw [List.mem_singleton] at hx; omega
    · rw [if_neg (fun hh => hc ⟨hy.2 (by omega), by omega⟩)]
      right
      refine ⟨List.mem_append_left _ h1, h2, fun x hx hb2 => ?_⟩
      rcases List.mem_append.1 hx with hx | hx
      · exact h3 x hx hb2
      · rw [List.mem_singleton] at hx
        subst hx
        by_cases hlt : x < b
        · exact absurd ⟨hb2, hlt⟩ hc
        · omega

theorem least_rounds (l : List Int) (f t : Int) (hf : 0 ≤ f) (hl : l.length ≤ 1000) : ∀ (d : Nat) (k : Nat) (i b : Int), 0 ≤ i → i ≤ l.length → (l.length : Int) - i = d → d < k → Best (l.take i.toNat) f t b →
    ∃ r, sluicewayref05_least.l0 k l f t b i = some r ∧ Best l f t r := by
  intro d
  induction d with
  | zero =>
    intro k i b h0 h1 hd hk hb
    obtain ⟨k, rfl⟩ : ∃ m, k = m + 1 := ⟨k - 1, by omega⟩
    simp only [sluicewayref05_least.l0]
    rw [if_neg (by omega)]
    rw [List.take_of_length_le (by omega)] at hb
    exact ⟨b, rfl, hb⟩
  | succ d ih =>
    intro k i b h0 h1 hd hk hb
    obtain ⟨k, rfl⟩ : ∃ m, k = m + 1 := ⟨k - 1, by omega⟩
    have hlt : i < (l.length : Int) := by omega
    have hs := best_step _ f t b (rd l i) hb hf
    have e : l.take i.toNat ++ [rd l i] = l.take (i + 1).toNat := by
      rw [show (i + 1).toNat = i.toNat + 1 by omega, List.take_succ_eq_append_getElem (by omega), rd_mem l i h0 hlt]
    rw [e] at hs
    obtain ⟨r, hr, hbest⟩ := ih k (i + 1) _ (by omega) (by omega) (by omega) (by omega) hs
    refine ⟨r, ?_, hbest⟩
    rw [← hr]
    simp only [sluicewayref05_least.l0]
    rw [if_pos hlt, if_pos h0, w64_in (a := i + 1) (by omega)]
    (repeat' split) <;> first | rfl | omega

theorem least_f (k : Nat) (l : List Int) (f t : Int) (hf : 0 ≤ f) (hl : l.length ≤ 1000) (hk : 1001 ≤ k) :
    sluicewayref05_least.f k l f t = some (if (first l f t).2 = true then (first l f t).1 else -1) := by
  unfold sluicewayref05_least.f
  obtain ⟨r, hr, hb⟩ := least_rounds l f t hf hl l.length k 0 (-1) (by omega) (by omega) (by omega) (by omega) (.inl ⟨rfl, fun x hx => by simp at hx⟩)
  rw [hr]
  congr 1
  rcases first_cases l f t with ⟨h1, h2⟩ | ⟨c, h1, h2, h3, h4⟩
  · rw [h1]
    simp only [Bool.false_eq_true, if_false]
    rcases hb with ⟨rfl, _⟩ | ⟨g1, g2, _⟩
    · rfl
    · rw [h2 r g1] at g2; cases g2
  · rw [h1]
    simp only [if_true]
    rcases hb with ⟨_, g⟩ | ⟨g1, g2, g3⟩
    · rw [g c h2] at h3; cases h3
    · have := h4 r g1 g2
      have := g3 c h2 h3
      omega

theorem accept_ref (k : Nat) (C L S P F M : Int) (l : List Int) (hl : l.length ≤ 1000) (hk : 1001 ≤ k) : sluicewayref05_Accept.f (k + 2) C L S P F M l = some (acc C L S P F M l) := by
  unfold sluicewayref05_Accept.f acc
  rw [right_ref]
  simp only [Option.bind_some, decide_eq_true_eq]
  by_cases hr : Right C L S P F M
  · rw [if_pos hr, if_pos hr]
    have hr' := hr
    unfold Right at hr'
    by_cases hf : F ≥ M
    · rw [if_pos hf, if_pos hf]
    · rw [if_neg hf, if_neg hf, w64_in (a := C + L) (by omega)]
      have j1 : ∀ (b : Int × Bool) (n : Int), (b.2 = true → b.1 ≤ 1099511627775 ∧ 0 ≤ b.1) → n = (if b.2 = true then b.1 else -1) → sluicewayref05_Accept.j1 (k + 1) l (C + L) n C L S P F M = some (tail C L S F M l b) := by
        intro b n hb hn
        simp only [sluicewayref05_Accept.j1, tail]
        by_cases h : b.2 = true
        · rw [if_pos h] at hn
          have := hb h
          rw [if_pos h, if_pos (by omega), hn, w64_in (by omega)]
        · rw [if_neg h] at hn
          rw [if_neg h, if_neg (by omega), w64_in (a := C + L + 1) (by omega), w64_in (a := C + L + S) (by omega), least_f k l _ _ (by omega) hl hk]
          simp only [Option.bind_some]
          rw [w64_in (a := F + 1) (by omega)]
          rcases first_cases l (C + L + 1) (C + L + S) with ⟨h1, _⟩ | ⟨c, h1, _, h3, _⟩
          · rw [h1]; rfl
          · rw [h1]
            have hc := (hitB_iff _ _ _).1 h3
            simp only [if_true]
            rw [if_pos (by omega), w64_in (by omega)]
      rw [least_f _ l _ _ (by omega) hl (by omega)]
      simp only [Option.bind_some]
      have ha : (first l C (C + L)).2 = true → (first l C (C + L)).1 ≤ 1099511627775 ∧ 0 ≤ (first l C (C + L)).1 := by
        rcases first_cases l C (C + L) with ⟨h1, _⟩ | ⟨c, h1, _, h3, _⟩
        · rw [h1]; intro h; cases h
        · rw [h1]; intro _; have hc := (hitB_iff _ _ _).1 h3; exact ⟨by simp only; omega, by simp only; omega⟩
      by_cases h2 : (first l C (C + L)).2 = true
      · have hn := ha h2
        rw [if_pos h2, if_neg (by omega), if_neg (fun h => by rw [h2] at h; cases h.1)]
        simp only [sluicewayref05_Accept.j0, Bool.false_eq_true, if_false]
        exact j1 _ _ ha (by rw [if_pos h2])
      · rw [if_neg h2, if_pos (by omega)]
        have h2' : (first l C (C + L)).2 = false := by simpa using h2
        by_cases hp : P > C + L
        · rw [if_pos ⟨h2', hp⟩]
          simp only [sluicewayref05_Accept.j0, hp, decide_true, if_true]
          rw [least_f _ l _ _ (by omega) hl (by omega)]
          simp only [Option.bind_some]
          refine j1 _ _ ?_ rfl
          rcases first_cases l P P with ⟨h1, _⟩ | ⟨c, h1, _, h3, _⟩
          · rw [h1]; intro h; cases h
          · rw [h1]; intro _; have hc := (hitB_iff _ _ _).1 h3; exact ⟨by simp only; omega, by simp only; omega⟩
        · rw [if_neg (fun h => hp h.2)]
          simp only [sluicewayref05_Accept.j0, hp, decide_false, Bool.false_eq_true, if_false]
          exact j1 _ _ ha (by rw [if_neg h2])
  · rw [if_neg hr, if_neg hr]

theorem reach_f (C L S P F M : Int) : window_Reach.f C L S P F M = some (if Right C L S P F M then (C, max (C + L + S) P) else (0, -1)) := by
  unfold window_Reach.f
  rw [right_f]
  simp only [Option.bind_some, decide_eq_true_eq]
  by_cases hr : Right C L S P F M
  · rw [if_pos hr, if_pos hr]
    unfold Right at hr
    rw [mx_def, w64_in (a := C + L) (by omega), w64_in (by omega)]
  · rw [if_neg hr, if_neg hr]

/-- acc hangs on the hits in reach and on the pending one alone. -/
theorem acc_congr2 {C L S P F M : Int} {l l' : List Int} (h : Right C L S P F M → ∀ x, (C ≤ x ∧ x ≤ C + L + S) ∨ x = P → (x ∈ l ↔ x ∈ l')) : acc C L S P F M l = acc C L S P F M l' := by
  unfold acc
  by_cases hr : Right C L S P F M
  · rw [if_pos hr, if_pos hr]
    have h' := h hr
    unfold Right at hr
    have e1 : first l C (C + L) = first l' C (C + L) := first_congr fun x h1 h2 => h' x (by omega)
    have e3 : first l (C + L + 1) (C + L + S) = first l' (C + L + 1) (C + L + S) := first_congr fun x h1 h2 => h' x (by omega)
    rw [e1]
    by_cases hc : (first l' C (C + L)).2 = false ∧ P > C + L
    · have e2 : first l P P = first l' P P := first_congr fun x h1 h2 => h' x (by omega)
      rw [if_pos hc, if_pos hc, e2]
      unfold tail
      rw [e3]
    · rw [if_neg hc, if_neg hc]
      unfold tail
      rw [e3]
  · rw [if_neg hr, if_neg hr]
def Bytes (l : List Int) : Prop := (∀ x ∈ l, 0 ≤ x ∧ x ≤ 255) ∧ l.length ≤ 1000
theorem code_f (l : List Int) (c d : Int) (hl : Bytes l) (hc : c < 9223372036854775808) : otp_Code.f l c d = some (Sha.codeF l c d) := by
  unfold otp_Code.f
  rw [if_pos ⟨hl.1, hl.2, hc⟩]
def ok (l : List Int) (d : Int) : Prop := 1 ≤ l.length ∧ l.length ≤ 64 ∧ 6 ≤ d ∧ d ≤ 8
instance (l : List Int) (d : Int) : Decidable (ok l d) := inferInstanceAs (Decidable (1 ≤ l.length ∧ l.length ≤ 64 ∧ 6 ≤ d ∧ d ≤ 8))
theorem pow_zero (d : Int) : Sha.powF d = 0 ↔ ¬ (6 ≤ d ∧ d ≤ 8) := by
  unfold Sha.powF
  (repeat' split) <;> omega
theorem code_ok (l : List Int) (c d : Int) (hc : 0 ≤ c) : (Sha.codeF l c d).2 = if ok l d then 0 else 1 := by
  unfold Sha.codeF Sha.truncF
  by_cases h : ok l d
  · rw [if_pos h]
    have h' := h
    unfold ok at h'
    rw [if_neg (by omega), if_neg (by rw [pow_zero]; omega)]
  · rw [if_neg h]
    have h' := h
    unfold ok at h'
    split
    · rfl
    · rw [if_pos (by rw [pow_zero]; omega)]
theorem right04 (l : List Int) (d : Int) : sluicewayref04_Right.f l 0 d = some (decide (ok l d)) := by
  unfold sluicewayref04_Right.f sluicewayref04_Digits.f
  (repeat' split) <;> (try simp only [Option.bind_some]) <;> congr 1
  · apply decide_eq_decide.2; unfold ok; omega
  all_goals (symm; apply decide_eq_false; unfold ok; omega)

/-- What Try's loop comes to. -/
theorem try_loop (l : List Int) (d code C L S P F M X : Int) (hl : Bytes l) (hC : 0 ≤ C ∧ C ≤ 1000000) (hP : P < 9223372036854775808) : ∀ (n k : Nat) (x13 : List Int) (x14 : Int), C ≤ x14 → (min X (C + 70) + 1 - x14).toNat = n → x13.length + n ≤ 200 → n + 4 ≤ k →
    ∃ H, window_Try.l0 k l d code x13 x14 X C L S P F M = some (acc C L S P F M H) ∧ ∀ x, x ∈ H ↔ x ∈ x13 ∨ (x14 ≤ x ∧ x ≤ min X (C + 70) ∧ (Sha.codeF l x d).1 = code) ∨ (x = P ∧ (Sha.codeF l P d).1 = code)
  | 0, k, x13, x14, h1, h2, h3, hk => by
    obtain ⟨k, rfl⟩ : ∃ m, k = m + 3 := ⟨k - 3, by omega⟩
    have hlim : ¬ x14 ≤ mn X (wrap64 ((wrap64 (C + 20)) + 50)) := by
      rw [mn_def, w64_in (a := C + 20) (by omega), w64_in (by omega)]
      omega
    simp only [window_Try.l0]
    rw [if_neg hlim, code_f l P d hl hP]
    simp only [Option.bind_some]
    by_cases hm : (Sha.codeF l P d).1 = code
    · rw [if_pos hm, if_pos (by omega), accept_f k _ _ _ _ _ _ _ (by simp; omega)]
      refine ⟨x13 ++ [P], rfl, fun x => ?_⟩
      rw [List.mem_append, List.mem_singleton]
      constructor
      · rintro (h | h)
        · exact .inl h
        · exact .inr (.inr ⟨h, hm⟩)
      · rintro (h | h | h)
        · exact .inl h
        · omega
        · exact .inr h.1
    · rw [if_neg hm, accept_f k _ _ _ _ _ _ _ (by omega)]
      refine ⟨x13, rfl, fun x => ?_⟩
      constructor
      · exact .inl
      · rintro (h | h | h)
        · exact h
        · omega
        · exact absurd h.2 hm
  | n + 1, k, x13, x14, h1, h2, h3, hk => by
    obtain ⟨k, rfl⟩ : ∃ m, k = m + 1 := ⟨k - 1, by omega⟩
    have hlim : x14 ≤ mn X (wrap64 ((wrap64 (C + 20)) + 50)) := by
      rw [mn_def, w64_in (a := C + 20) (by omega), w64_in (by omega)]
      omega
    have hle : x14 ≤ C + 70 := by omega
    simp only [window_Try.l0]
    rw [if_pos hlim, code_f l x14 d hl (by omega)]
    simp only [Option.bind_some]
    rw [w64_in (a := x14 + 1) (by omega)]
    by_cases hm : (Sha.codeF l x14 d).1 = code
    · rw [if_pos hm, if_pos (by omega)]
      obtain ⟨H, e, hH⟩ := try_loop l d code C L S P F M X hl hC hP n k (x13 ++ [x14]) (x14 + 1) (by omega) (by omega) (by simp; omega) (by omega)
      refine ⟨H, e, fun x => ?_⟩
      rw [hH, List.mem_append, List.mem_singleton]
      constructor
      · rintro ((h | h) | h | h)
        · exact .inl h
        · exact .inr (.inl ⟨by omega, by omega, by rw [h]; exact hm⟩)
        · exact .inr (.inl ⟨by omega, h.2.1, h.2.2⟩)
        · exact .inr (.inr h)
      · rintro (h | h | h)
        · exact .inl (.inl h)
        · by_cases hx : x = x14
          · exact .inl (.inr hx)
          · exact .inr (.inl ⟨by omega, h.2.1, h.2.2⟩)
        · exact .inr (.inr h)
    · rw [if_neg hm]
      obtain ⟨H, e, hH⟩ := try_loop l d code C L S P F M X hl hC hP n k x13 (x14 + 1) (by omega) (by omega) (by omega) (by omega)
      refine ⟨H, e, fun x => ?_⟩
      rw [hH]
      constructor
      · rintro (h | h | h)
        · exact .inl h
        · exact .inr (.inl ⟨by omega, h.2.1, h.2.2⟩)
        · exact .inr (.inr h)
      · rintro (h | h | h)
        · exact .inl h
        · by_cases hx : x = x14
          · subst hx; exact absurd h.2.2 hm
          · exact .inr (.inl ⟨by omega, h.2.1, h.2.2⟩)
        · exact .inr (.inr h)

/-- What the statement's own loop comes to, if Try answered acc of H. -/
theorem law_loop (l : List Int) (d code C L S P F M : Int) (H : List Int) (hl : Bytes l) (hok : ok l d) (hr : Right C L S P F M) (hC : C ≤ 1000000) (hH : ∀ x, (C ≤ x ∧ x ≤ C + L + S) ∨ x = P → (x ∈ H ↔ (C ≤ x ∧ x ≤ C + L + S ∧ (Sha.codeF l x d).1 = code) ∨ (x = P ∧ (Sha.codeF l P d).1 = code))) :
    ∀ (n k : Nat) (x17 : List Int) (x18 : Int), C ≤ x18 → x18 ≤ C + L + S + 1 → (C + L + S + 1 - x18).toNat = n → x17.length + n ≤ 200 → n + 1005 ≤ k → (∀ x, x ∈ x17 ↔ C ≤ x ∧ x < x18 ∧ (Sha.codeF l x d).1 = code) →
    sluicewaylaw05_WindowTries.l0 k l d code true (acc C L S P F M H).2.2.2.2.2.2.1 (acc C L S P F M H).2.2.2.2.2.2.2 x17 x18 C L S P F M (acc C L S P F M H).1 (acc C L S P F M H).2.1 (acc C L S P F M H).2.2.1 (acc C L S P F M H).2.2.2.1 (acc C L S P F M H).2.2.2.2.1 (acc C L S P F M H).2.2.2.2.2.1 = some true
  | 0, k, x17, x18, h1, h2, h3, h4, hk, hx => by
    obtain ⟨k, rfl⟩ : ∃ m, k = m + 3 := ⟨k - 3, by omega⟩
    have hr' := hr
    unfold Right at hr'
    simp only [sluicewaylaw05_WindowTries.l0]
    rw [w64_in (a := C + L) (by omega), w64_in (a := C + L + S) (by omega), if_neg (by omega), code_f l P d hl (by omega)]
    simp only [Option.bind_some]
    rw [code_ok l P d (by omega), if_pos hok, if_pos rfl]
    by_cases hm : (Sha.codeF l P d).1 = code
    · have e : acc C L S P F M (x17 ++ [P]) = acc C L S P F M H := acc_congr2 (fun _ x hxx => by
        rw [hH x hxx, List.mem_append, List.mem_singleton, hx]
        constructor
        · rintro (h | h)
          · exact .inl ⟨h.1, by omega, h.2.2⟩
          · exact .inr ⟨h, hm⟩
        · rintro (h | h)
          · exact .inl ⟨h.1, by omega, h.2.2⟩
          · exact .inr h.1)
      rw [if_pos hm, if_pos (by omega), accept_ref k _ _ _ _ _ _ _ (by simp; omega) (by omega), e]
      simp
    · have e : acc C L S P F M x17 = acc C L S P F M H := acc_congr2 (fun _ x hxx => by
        rw [hH x hxx, hx]
        constructor
        · rintro h
          exact .inl ⟨h.1, by omega, h.2.2⟩
        · rintro (h | h)
          · exact ⟨h.1, by omega, h.2.2⟩
          · exact absurd h.2 hm)
      rw [if_neg hm, accept_ref k _ _ _ _ _ _ _ (by omega) (by omega), e]
      simp
  | n + 1, k, x17, x18, h1, h2, h3, h4, hk, hx => by
    obtain ⟨k, rfl⟩ : ∃ m, k = m + 1 := ⟨k - 1, by omega⟩
    have hr' := hr
    unfold Right at hr'
    simp only [sluicewaylaw05_WindowTries.l0]
    rw [w64_in (a := C + L) (by omega), w64_in (a := C + L + S) (by omega), if_pos (by omega), code_f l x18 d hl (by omega)]
    simp only [Option.bind_some]
    rw [code_ok l x18 d (by omega), if_pos hok, if_pos rfl, w64_in (a := x18 + 1) (by omega)]
    by_cases hm : (Sha.codeF l x18 d).1 = code
    · rw [if_pos hm, if_pos (by omega)]
      refine law_loop l d code C L S P F M H hl hok hr hC hH n k (x17 ++ [x18]) (x18 + 1) (by omega) (by omega) (by omega) (by simp; omega) (by omega) (fun x => ?_)
      rw [List.mem_append, List.mem_singleton, hx]
      constructor
      · rintro (h | h)
        · exact ⟨h.1, by omega, h.2.2⟩
        · exact ⟨by omega, by omega, by rw [h]; exact hm⟩
      · rintro h
        by_cases hxx : x = x18
        · exact .inr hxx
        · exact .inl ⟨h.1, by omega, h.2.2⟩
    · rw [if_neg hm]
      refine law_loop l d code C L S P F M H hl hok hr hC hH n k x17 (x18 + 1) (by omega) (by omega) (by omega) (by omega) (by omega) (fun x => ?_)
      rw [hx]
      constructor
      · rintro h
        exact ⟨h.1, by omega, h.2.2⟩
      · rintro h
        refine ⟨h.1, ?_, h.2.2⟩
        by_cases hxx : x = x18
        · subst hxx; exact absurd h.2.2 hm
        · omega

theorem at_j2 (l : List Int) (d code C L S P F M : Int) (hl : Bytes l) (hC : C ≤ 1000000) (hb : -9223372036854775808 ≤ P ∧ P ≤ 9223372036854775807) (k : Nat) (hk : 2000 ≤ k) : sluicewaylaw05_WindowTries.j2 k l d code true C L S P F M = some true := by
  obtain ⟨k, rfl⟩ : ∃ m, k = m + 4 := ⟨k - 4, by omega⟩
  simp only [sluicewaylaw05_WindowTries.j2]
  rw [right04, right_ref]
  unfold window_Try.f
  rw [code_f l 0 d hl (by omega)]
  simp only [Option.bind_some]
  rw [code_ok l 0 d (by omega), right_f]
  simp only [Option.bind_some]
  by_cases hok : ok l d
  · rw [if_pos hok, if_pos rfl]
    by_cases hr : Right C L S P F M
    · have hr' := hr
      unfold Right at hr'
      rw [decide_eq_true hr]
      simp only [Bool.not_true, window_Try.j0, Bool.false_eq_true, if_false]
      rw [reach_f, if_pos hr]
      simp only [Option.bind_some]
      obtain ⟨H, e, hH⟩ := try_loop l d code C L S P F M (max (C + L + S) P) hl (by omega) (by omega) (min (max (C + L + S) P) (C + 70) + 1 - C).toNat (k + 2) [] C (by omega) rfl (by simp; omega) (by omega)
      rw [e]
      simp only [Option.bind_some]
      rw [decide_eq_true hok, if_pos rfl]
      simp only [sluicewaylaw05_WindowTries.j3, Bool.false_eq_true, if_false]
      refine law_loop l d code C L S P F M H hl hok hr hC (fun x hx => ?_) (C + L + S + 1 - C).toNat (k + 2) [] C (by omega) (by omega) rfl (by simp; omega) (by omega) (fun x => by simp; omega)
      rw [hH]
      constructor
      · rintro (h | h | h)
        · simp at h
        · rcases hx with hx | hx
          · exact .inl ⟨hx.1, hx.2, h.2.2⟩
          · exact .inr ⟨hx, by rw [← hx]; exact h.2.2⟩
        · exact .inr h
      · rintro (h | h)
        · exact .inr (.inl ⟨h.1, by omega, h.2.2⟩)
        · exact .inr (.inr h)
    · rw [decide_eq_false hr, decide_eq_true hok]
      simp [window_Try.j0, sluicewaylaw05_WindowTries.j3]
  · rw [if_neg hok, if_neg (by omega), decide_eq_false hok]
    simp [window_Try.j0, sluicewaylaw05_WindowTries.j3]

theorem WindowTries (C L S P F M : Int) (l : List Int) (d code at_ : Int) (_h0 : (Lit.int .i64 C).wf = true) (_h1 : (Lit.int .i64 L).wf = true) (_h2 : (Lit.int .i64 S).wf = true) (hP : (Lit.int .i64 P).wf = true) (_h4 : (Lit.int .i64 F).wf = true) (_h5 : (Lit.int .i64 M).wf = true) {q : Prop} (_hy : q) (hw : ∀ x ∈ l, (Lit.int .u8 x).wf = true) (_h6 : (Lit.int .i64 d).wf = true) (_h7 : (Lit.int .i64 code).wf = true) (_h8 : (Lit.int .i64 at_).wf = true) : ∃ k, sluicewaylaw05_WindowTries.f k C L S P F M l d code at_ = some true := by
  refine ⟨3002, ?_⟩
  have hbP := bnd hP
  unfold sluicewaylaw05_WindowTries.f
  rw [is_shown 3000]
  simp only [Option.bind_some, mn_def]
  have hl : Bytes (l.take (min (l.length : Int) 70).toNat) := ⟨fun x hx => Sha.byte_of_wf hw x (List.mem_of_mem_take hx), by rw [List.length_take]; omega⟩
  rw [if_pos (by omega), if_pos (by omega)]
  generalize l.take (min (l.length : Int) 70).toNat = key at *
  by_cases hC : C > 1000000
  · rw [if_pos hC]
    simp [sluicewaylaw05_WindowTries.j0]
  · rw [if_neg hC]
    simp only [sluicewaylaw05_WindowTries.j0]
    by_cases hPb : P > 1000100
    · rw [if_pos (decide_eq_true hPb)]
    · rw [if_neg (by simpa using hPb)]
      have j1 : ∀ b : Bool, (b = true → Right C L S P F M) → sluicewaylaw05_WindowTries.j1 3001 key d code at_ true b C L S P F M = some true := by
        intro b hb
        simp only [sluicewaylaw05_WindowTries.j1]
        by_cases h : b = true
        · have hr := hb h
          unfold Right at hr
          obtain ⟨q, hq, hq0, hq1⟩ : ∃ q : Int, Int.tmod (Go.bits .and .i64 at_ 255) 100 = q ∧ 0 ≤ q ∧ q ≤ 100 - 1 := Sha.and_low_mod at_ 255 100 (by decide) (by decide)
          rw [if_pos h, hq, w64_in (by omega), code_f key _ d hl (by omega)]
          simp only [Option.bind_some]
          split
          · exact at_j2 key d _ C L S P F M hl (by omega) hbP 3000 (by omega)
          · exact at_j2 key d _ C L S P F M hl (by omega) hbP 3000 (by omega)
        · rw [if_neg h]
          exact at_j2 key d code C L S P F M hl (by omega) hbP 3000 (by omega)
      split
      · rw [right_f]
        simp only [Option.bind_some]
        exact j1 _ (fun h => of_decide_eq_true h)
      · exact j1 false (fun h => by cases h)

end Go.Proofs.Ytijnmoceafcamaa.PureWindowTries
