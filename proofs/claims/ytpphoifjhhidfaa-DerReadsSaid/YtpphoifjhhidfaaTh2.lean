/- Plain laws: cuts of what is written, numbers read back, Of of one node. -/
import Derived.Test.YtpphoifjhhidfaaTh1
namespace Go.Proofs.Ytpphoifjhhidfaa.Der
set_option linter.unusedVariables false
set_option linter.unusedSimpArgs false
open Go.RowKit
open Go.Proofs.YtpphoifjhhidfaaW.PrintWords
open Go.Proofs.Ytpphoifjhhidfaa.Gread
theorem byte_of_wf {l : List Int} (h : ∀ x ∈ l, (Lit.int .u8 x).wf = true) : Bs l := by
  intro x hx
  have := h x hx
  simp [Lit.wf, IntKind.min, IntKind.max, IntKind.wrap, IntKind.bits, IntKind.signed] at this
  omega
theorem cutEnd_app (c r : List Int) : cutEnd (c.length : Int) (c ++ r) = some (c, r) := by
  unfold cutEnd
  rw [if_pos (by rw [List.length_append]; omega)]
  simp
theorem lenL_bs (n : Nat) : Bs (lenL n) := by
  unfold lenL
  split
  · intro y hy; simp at hy; omega
  · intro y hy
    rcases List.mem_cons.1 hy with rfl | hy
    · have := digN_len 7 n; omega
    · exact digN_bs 7 n y hy
theorem digN_pos (k : Nat) (x : Int) (h : 0 < x) : 1 ≤ (digN (k + 1) x).length := by
  rw [digN, if_pos h]; simp
theorem cutO_len (x : Int) (c r : List Int) (h : c.length < 16777216) : cutO (x :: (lenL c.length ++ (c ++ r))) = some (some (c, r)) := by
  unfold cutO
  by_cases h1 : c.length < 128
  · have e : lenL c.length = [(c.length : Int)] := by rw [lenL, if_pos h1]
    rw [e]
    rw [if_neg (by simp), if_pos (by simp; omega)]
    simp [cutEnd_app]
  · have e : lenL c.length = (128 + ((digN 7 c.length).length : Int)) :: digN 7 c.length := by rw [lenL, if_neg h1]
    have hm1 := digN_pos 6 (c.length : Int) (by omega)
    have hm2 := digN_len2 3 7 (c.length : Int) (by simp; omega)
    have hbe := digN_be 7 (c.length : Int) (by omega) (by simp; omega)
    have hlf := length_eq c.length (by omega)
    rw [e] at hlf ⊢
    have hbs : Bs ((128 + ((digN 7 c.length).length : Int)) :: digN 7 c.length) := by rw [← e]; exact lenL_bs c.length
    generalize digN 7 (c.length : Int) = D at *
    have e2 : (128 + (D.length : Int) - 128).toNat = D.length := by omega
    have e3 : ((x :: (128 + (D.length : Int)) :: D) ++ (c ++ r)).getD 1 0 = 128 + (D.length : Int) := by simp
    have e4 : x :: ((128 + (D.length : Int)) :: D ++ (c ++ r)) = (x :: (128 + (D.length : Int)) :: D) ++ (c ++ r) := by simp
    rw [e4, e3]
    rw [if_neg (by simp), if_neg (by omega), if_neg (by simp; omega), e2]
    have e5 : List.take D.length (List.drop 2 ((x :: (128 + (D.length : Int)) :: D) ++ (c ++ r))) = D := by simp
    have e6 : List.drop D.length (List.drop 2 ((x :: (128 + (D.length : Int)) :: D) ++ (c ++ r))) = c ++ r := by simp
    have e7 : List.drop 1 (List.take (2 + D.length) ((x :: (128 + (D.length : Int)) :: D) ++ (c ++ r))) = (128 + (D.length : Int)) :: D := by
      rw [show 2 + D.length = (x :: (128 + (D.length : Int)) :: D).length by simp; omega, List.take_left]
      simp
    rw [e5, e6, e7, hbe, hlf]
    simp only [Option.bind_some]
    rw [if_pos ((eqB_iff hbs hbs).2 rfl), cutEnd_app]
theorem valL_one (y : Int) : valL [y] = if y < 128 then y else y - 256 := by simp [valL]
theorem snoc_of {c : List Int} (h : 2 ≤ c.length) : ∃ a y, c = a ++ [y] ∧ a ≠ [] := by
  rcases List.eq_nil_or_concat c with rfl | ⟨a, y, rfl⟩
  · simp at h
  · refine ⟨a, y, by simp, ?_⟩
    rintro rfl
    simp at h
theorem pow6 (n : Nat) (h : n ≤ 6) : (256 : Int) ^ n ≤ 256 ^ 6 := by
  have : n = 0 ∨ n = 1 ∨ n = 2 ∨ n = 3 ∨ n = 4 ∨ n = 5 ∨ n = 6 := by omega
  rcases this with rfl | rfl | rfl | rfl | rfl | rfl | rfl <;> decide
theorem valL_bound : ∀ (n : Nat) (c : List Int), c.length = n + 1 → n ≤ 7 → Bs c → -(128 * 256 ^ n) ≤ valL c ∧ valL c < 128 * 256 ^ n := by
  intro n
  induction n with
  | zero =>
    intro c hl _ hb
    obtain ⟨y, rfl⟩ := List.length_eq_one_iff.1 hl
    have := hb y (by simp)
    rw [valL_one]
    split <;> (simp; omega)
  | succ n ih =>
    intro c hl hn hb
    obtain ⟨a, y, rfl, ha⟩ := snoc_of (by omega : 2 ≤ c.length)
    have hy := hb y (by simp)
    obtain ⟨i1, i2⟩ := ih a (by simp at hl; omega) (by omega) (fun z hz => hb z (by simp [hz]))
    rw [valL_snoc a y ha]
    have hp : (256 : Int) ^ (n + 1) = 256 ^ n * 256 := Int.pow_succ ..
    have hq : (256 : Int) ^ n ≤ 256 ^ 6 := by
      exact pow6 n (by omega)
    have hw : wrap64 (valL a * 256 + y) = valL a * 256 + y := by
      unfold wrap64
      have h6 : (256 : Int) ^ 6 = 281474976710656 := by decide
      rw [h6] at hq
      omega
    rw [hw, hp]
    omega
theorem valL_step {a : List Int} {y : Int} (ha : a ≠ []) (hl : a.length ≤ 7) (hb : Bs (a ++ [y])) : valL (a ++ [y]) = valL a * 256 + y := by
  rw [valL_snoc a y ha]
  have hy := hb y (by simp)
  have hpos : 1 ≤ a.length := by
    cases a with
    | nil => exact absurd rfl ha
    | cons _ _ => simp
  obtain ⟨i1, i2⟩ := valL_bound (a.length - 1) a (by omega) (by omega) (fun z hz => hb z (by simp [hz]))
  have hq : (256 : Int) ^ (a.length - 1) ≤ 256 ^ 6 := by
    exact pow6 _ (by omega)
  have h6 : (256 : Int) ^ 6 = 281474976710656 := by decide
  rw [h6] at hq
  unfold wrap64
  omega
theorem numN_len : ∀ (j : Nat) (x : Int), 1 ≤ (numN j x).length ∧ (numN j x).length ≤ j + 1
  | 0, x => by simp [numN]
  | j + 1, x => by
    rw [numN]
    split
    · simp
    · have := numN_len j (x / 256); simp; omega
theorem valL_range (c : List Int) (hb : Bs c) : -9223372036854775808 ≤ valL c ∧ valL c ≤ 9223372036854775807 := by
  rcases List.eq_nil_or_concat c with rfl | ⟨a, y, rfl⟩
  · simp [valL]
  · rw [List.concat_eq_append] at hb ⊢
    by_cases ha : a = []
    · subst ha
      have := hb y (by simp)
      rw [List.nil_append, valL_one]
      split <;> omega
    · rw [valL_snoc a y ha]
      unfold wrap64
      omega
theorem val_num : ∀ (j : Nat) (x : Int), j ≤ 7 → -(128 * 256 ^ j) ≤ x → x < 128 * 256 ^ j → valL (numN j x) = x := by
  intro j
  induction j with
  | zero =>
    intro x _ h1 h2
    simp at h1 h2
    rw [numN, valL_one]
    split <;> omega
  | succ j ih =>
    intro x hj h1 h2
    rw [numN]
    split
    · rw [valL_one]; split <;> omega
    · have hp : (256 : Int) ^ (j + 1) = 256 ^ j * 256 := Int.pow_succ ..
      rw [hp] at h1 h2
      have h3 := numN_len j (x / 256)
      have hne : numN j (x / 256) ≠ [] := by intro h; rw [h] at h3; simp at h3
      rw [valL_step hne (by omega) ?_, ih (x / 256) (by omega) (by omega) (by omega)]
      · omega
      · intro y hy
        rcases List.mem_append.1 hy with hy | hy
        · exact numN_bs j _ y hy
        · simp at hy; omega
end Go.Proofs.Ytpphoifjhhidfaa.Der
