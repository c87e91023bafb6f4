/- The law DerNumbers told: numbers are written in as few bytes as it takes, and read back. -/
import Derived.Test.YtpphoifjhhidfaaNumbers
namespace Go.Proofs.Ytpphoifjhhidfaa.Der
set_option linter.unusedVariables false
set_option linter.unusedSimpArgs false
open Go.RowKit
open Go.Proofs.YtpphoifjhhidfaaW.PrintWords
open Go.Proofs.Ytpphoifjhhidfaa.Gread
theorem valL_sgn : ∀ (n : Nat) (y : Int) (r : List Int), r.length = n → n ≤ 7 → Bs (y :: r) → (valL (y :: r) < 0 ↔ y > 127) := by
  intro n
  induction n with
  | zero =>
    intro y r hl _ hb
    obtain rfl := List.length_eq_zero_iff.1 hl
    have := hb y (by simp)
    rw [valL_one]
    split <;> omega
  | succ n ih =>
    intro y r hl hn hb
    obtain ⟨a, z, rfl, ha⟩ : ∃ a z, r = a ++ [z] ∧ True := by
      rcases List.eq_nil_or_concat r with rfl | ⟨a, z, rfl⟩
      · simp at hl
      · exact ⟨a, z, by simp, trivial⟩
    have hz := hb z (by simp)
    have h1 := ih y a (by simp at hl; omega) (by omega) (fun w hw => hb w (by simp at hw ⊢; rcases hw with h | h <;> simp [h]))
    rw [show y :: (a ++ [z]) = (y :: a) ++ [z] by simp, valL_step (by simp) (by simp at hl ⊢; omega) (by simpa using hb)]
    omega
theorem i64_of_wf {n : Int} (h : (Lit.int .i64 n).wf = true) : -9223372036854775808 ≤ n ∧ n ≤ 9223372036854775807 := by
  simp [Lit.wf, IntKind.min, IntKind.max, IntKind.wrap, IntKind.bits, IntKind.signed] at h
  omega
theorem num_bytes (n : Int) (h1 : -9223372036854775808 ≤ n) (h2 : n ≤ 9223372036854775807) : bytesF ⟨1, n, e0, 0, []⟩ = some (2 :: ((numN 7 n).length : Int) :: numN 7 n, 0) := by
  have hl := numN_len 7 n
  have hr : rightT ⟨1, n, e0, 0, []⟩ 20 = true := by rw [rightT]; simp [e0_list]
  have ho : okT ⟨1, n, e0, 0, []⟩ = true := by unfold okT; rw [szT, szL, txB, txBL]; simp [e0_size]
  have hw : wrO ⟨1, n, e0, 0, []⟩ = some (2 :: ((numN 7 n).length : Int) :: numN 7 n) := by
    rw [wrO, contF, if_pos rfl, number_eq n h1 h2, Option.bind_some, head_ok 1 0 2 _ (by omega) (by omega) (by decide), lenL, if_pos (by omega)]
    rfl
  unfold bytesF
  rw [if_pos ho, if_pos hr, hw, Option.bind_some, if_neg (by simp; omega)]
theorem derNumbers_calls (n : Int) (w : World) (hw : (Lit.int .i64 n).wf = true) : Calls Try.prog 5 #[.int .i64 n] w fun e w' => e = .returned (.bool true) ∧ Below w.heap.size w w' := by
  obtain ⟨h1, h2⟩ := i64_of_wf hw
  have hb := num_bytes n h1 h2
  have hl := numN_len 7 n
  have hbs := numN_bs 7 n
  have hv : valL (numN 7 n) = n := val_num 7 n (by omega) (by simp; omega) (by simp; omega)
  have hm := numN_mini 7 n (by simp; omega) (by simp; omega)
  generalize numN 7 n = c at *
  have hof : ∀ c : List Int, c.length < 128 → Bs c → ofF (2 :: (c.length : Int) :: c) = some (resF (if eqB (numN 7 (valL c)) c then some ⟨1, valL c, e0, 0, []⟩ else none)) := by
    intro c hc hcb
    have hvr := valL_range c hcb
    have h := of_short 2 c (by omega) hcb hc
    rw [bodyO, if_pos rfl, number_eq _ hvr.1 hvr.2] at h
    exact h
  have h3 := hof c (by omega) hbs
  rw [if_pos ((eqB_iff (numN_bs 7 _) hbs).2 ((num_back c hbs).2 ⟨hm, by omega⟩)), hv] at h3
  obtain ⟨a, ha⟩ : ∃ a : Int, a = if n < 0 then 255 else 0 := ⟨_, rfl⟩
  have hbs2 : Bs (a :: c) := by
    intro x hx
    rcases List.mem_cons.1 hx with rfl | hx
    · rw [ha]; split <;> omega
    · exact hbs x hx
  have h4 := hof (a :: c) (by simp; omega) hbs2
  have hne : ¬ eqB (numN 7 (valL (a :: c))) (a :: c) = true := by
    intro h
    have h5 := ((num_back _ hbs2).1 ((eqB_iff (numN_bs 7 _) hbs2).1 h)).1
    rcases c with _ | ⟨q, r⟩
    · simp at hl
    · have h6 := h5.2 _ q r rfl
      have h7 := valL_sgn r.length q r rfl (by simp at hl; omega) hbs
      rw [hv] at h7
      by_cases hn : n < 0
      · rw [if_pos hn] at ha
        have := h7.1 hn
        exact h6.2 ⟨ha, by omega⟩
      · rw [if_neg hn] at ha
        have : ¬ (q > 127) := fun h => hn (h7.2 h)
        exact h6.1 ⟨ha, by omega⟩
  rw [if_neg hne] at h4
  refine numbers_walk n c.length a _ _ hb h3 h4 ?_ ?_ ?_ ?_ ha w
  · simp; omega
  · simp
  · omega
  · simp
end Go.Proofs.Ytpphoifjhhidfaa.Der
