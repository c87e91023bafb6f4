/- The plain law DerSigns. -/
import Derived.Test.YtpphoifjhhidfaaGDerSignsx2
import Derived.Test.YtpphoifjhhidfaaTh2
namespace Go.Proofs.Ytpphoifjhhidfaa.Pure
set_option linter.unusedVariables false
set_option linter.unusedSimpArgs false
open Go.RowKit Go.Proofs.Ytpphoifjhhidfaa.Der Go.Proofs.Ytpphoifjhhidfaa.GDerSigns Go.Proofs.YtpphoifjhhidfaaW.PrintWords Go.Proofs.YtpphoifjhhidfaaW.PrintLast
theorem ors_foldl (r : List Int) (x3 : Bool) (x5 x152000 x152001 x152003 : Int) (x152002 : ByteArray) (x152004 : List S24) (c : List Int) (hb : Bs c) (hl : c.length ≤ 10) : ∀ (m j : Nat) (v : Int) (F : Nat), j + m = c.length → sluicewaylaw01_DerSigns.l0 (F + m + 1) c x3 x5 (c.length : Int) v (j : Int) x152000 x152001 x152002 x152003 x152004 = sluicewaylaw01_DerSigns.l0 (F + 1) c x3 x5 (c.length : Int) ((c.drop j).foldl (fun n y => wrap64 (n * 256 + y)) v) (c.length : Int) x152000 x152001 x152002 x152003 x152004 := by
  intro m
  induction m with
  | zero =>
    intro j v F h
    obtain rfl : j = c.length := by omega
    rw [List.drop_length]; rfl
  | succ m ih =>
    intro j v F h
    have hj : j < c.length := by omega
    have hd : c.drop j = c.getD j 0 :: c.drop (j + 1) := by
      rw [List.drop_eq_getElem_cons hj]; simp [List.getD_eq_getElem?_getD, hj]
    have hy := hb (c.getD j 0) (by rw [List.getD_eq_getElem?_getD, List.getElem?_eq_getElem hj]; exact List.getElem_mem _)
    rw [show F + (m + 1) + 1 = (F + m + 1) + 1 by omega, sluicewaylaw01_DerSigns.l0, if_pos (by omega), if_pos (by omega), if_pos (by omega)]
    rw [show rd c (j : Int) = c.getD j 0 from rfl, show wrap64 (c.getD j 0) = c.getD j 0 by unfold wrap64; omega, or64w v _ (by omega), show wrap64 ((j : Int) + 1) = ((j + 1 : Nat) : Int) by unfold wrap64; omega]
    rw [ih (j + 1) _ F (by omega), hd]
    rfl
theorem valL_sign : ∀ (n : Nat) (y : Int) (r : List Int), r.length = n → n ≤ 7 → Bs (y :: r) → (valL (y :: r) < 0 ↔ y > 127) := by
  intro n
  induction n with
  | zero =>
    intro y r hl _ hb
    obtain rfl := List.length_eq_zero_iff.1 hl
    have := hb y (by simp)
    rw [valL_one]
    split <;> omega
  | succ n ih =>
    intro y r hl hn hb
    obtain ⟨a, z, rfl, ha⟩ : ∃ a z, r = a ++ [z] ∧ True := by
      rcases List.eq_nil_or_concat r with rfl | ⟨a, z, rfl⟩
      · simp at hl
      · exact ⟨a, z, by simp, trivial⟩
    have hz := hb z (by simp)
    have h1 := ih y a (by simp at hl; omega) (by omega) (fun w hw => hb w (by simp at hw ⊢; rcases hw with h | h <;> simp [h]))
    rw [show y :: (a ++ [z]) = (y :: a) ++ [z] by simp, valL_step (by simp) (by simp at hl ⊢; omega) (by simpa using hb)]
    omega
theorem signs_end (c : List Int) (hb : Bs c) (hl : c.length ≤ 8) (hne : c ≠ []) (x0 : Int) (x2 : ByteArray) (x3 : Int) (x4 : List S24) (k : Nat) : sluicewaylaw01_DerSigns.j1 (k + 14) c true 0 (c.length : Int) true x0 (valL c) x2 x3 x4 = some true := by
  obtain ⟨y, r, rfl⟩ : ∃ y r, c = y :: r := by
    cases c with
    | nil => exact absurd rfl hne
    | cons y r => exact ⟨y, r, rfl⟩
  have hy := hb y (by simp)
  have hrd : rd (y :: r) 0 = y := rfl
  have hv : ∀ v : Int, (v = -1 ∧ ¬ y < 128) ∨ (v = 0 ∧ y < 128) → ((y :: r).drop 0).foldl (fun n y => wrap64 (n * 256 + y)) v = valL (y :: r) := by
    intro v h
    rw [List.drop_zero, List.foldl_cons, valL]
    congr 1
    rcases h with ⟨rfl, h⟩ | ⟨rfl, h⟩
    · rw [if_neg h]; unfold wrap64; omega
    · rw [if_pos h]; unfold wrap64; omega
  have hsgn : (decide (valL (y :: r) < 0) == decide (y > 127)) = true := by
    have h := valL_sign r.length y r rfl (by simp at hl; omega) hb
    simp [h]
  have step : ∀ (v : Int) (n : Nat), (v = -1 ∧ ¬ y < 128) ∨ (v = 0 ∧ y < 128) → (y :: r).length + 1 ≤ n → sluicewaylaw01_DerSigns.l0 n (y :: r) true 0 ((y :: r).length : Int) v 0 x0 (valL (y :: r)) x2 x3 x4 = some true := by
    intro v n h hn
    obtain ⟨F, rfl⟩ : ∃ F, n = F + (y :: r).length + 1 := ⟨n - (y :: r).length - 1, by omega⟩
    have h1 := ors_foldl r true 0 x0 (valL (y :: r)) x3 x2 x4 (y :: r) hb (by omega) (y :: r).length 0 v F (by omega)
    rw [hv v h] at h1
    rw [show ((0 : Nat) : Int) = 0 from rfl] at h1
    rw [h1, sluicewaylaw01_DerSigns.l0, if_neg (by omega), if_pos rfl, if_pos rfl, if_pos rfl, if_pos (by simp), hrd, hsgn]
  rw [show k + 14 = (k + 13) + 1 by omega, sluicewaylaw01_DerSigns.j1, if_pos rfl, if_pos (by simp), hrd]
  by_cases h : y > 127
  · rw [if_pos h, show k + 13 = (k + 12) + 1 by omega, sluicewaylaw01_DerSigns.j2]
    exact step (-1) _ (.inl ⟨rfl, by omega⟩) (by omega)
  · rw [if_neg h, show k + 13 = (k + 12) + 1 by omega, sluicewaylaw01_DerSigns.j2]
    exact step 0 _ (.inr ⟨rfl, by omega⟩) (by omega)
theorem DerSigns : sluicewaylaw01_DerSigns.Pure := by
  intro l0 _ _ hw
  refine ⟨20, ?_⟩
  have hb := byte_of_wf hw
  unfold sluicewaylaw01_DerSigns.f
  have hs : sluicewaylaw01_shown.f = some true := rfl
  simp only [hs, Option.bind_some]
  rw [if_pos (by unfold mn; split <;> omega), if_pos (by unfold mn; split <;> omega)]
  have hcl : (l0.take ((mn (l0.length : Int) 10) : Int).toNat).length ≤ 10 := by rw [List.length_take]; unfold mn; split <;> omega
  have hcb : Bs (l0.take ((mn (l0.length : Int) 10) : Int).toNat) := fun x hx => hb x (List.mem_of_mem_take hx)
  generalize l0.take ((mn (l0.length : Int) 10) : Int).toNat = c at *
  rw [if_pos (by simp; omega)]
  have hvr := valL_range c hcb
  have hof : der_Of.f ([2, (c.length : Int) % 256] ++ c) = some (resF (if eqB (numN 7 (valL c)) c then some ⟨1, valL c, e0, 0, []⟩ else none)) := by
    rw [show (c.length : Int) % 256 = c.length by omega]
    have h := of_short 2 c (by omega) hcb (by omega)
    rw [bodyO, if_pos rfl, number_eq _ hvr.1 hvr.2] at h
    exact h
  rw [hof]
  simp only [Option.bind_some]
  have hnb := num_back c hcb
  have hmini : Mini c ∧ c.length ≤ 8 ↔ (c ≠ [] ∧ c.length ≤ 8 ∧ (1 < c.length → ¬ (rd c 0 = 0 ∧ rd c 1 < 128) ∧ ¬ (rd c 0 = 255 ∧ ¬ rd c 1 < 128))) := by
    constructor
    · rintro ⟨⟨h1, h2⟩, h3⟩
      refine ⟨h1, h3, fun h4 => ?_⟩
      rcases c with _ | ⟨p, _ | ⟨q, r⟩⟩
      · simp at h4
      · simp at h4
      · exact h2 p q r rfl
    · rintro ⟨h1, h2, h3⟩
      refine ⟨⟨h1, fun p q r e => ?_⟩, h2⟩
      subst e
      exact h3 (by simp)
  by_cases hm : Mini c ∧ c.length ≤ 8
  · have he : eqB (numN 7 (valL c)) c = true := (eqB_iff (numN_bs 7 _) hcb).2 (hnb.2 hm)
    rw [if_pos he]
    simp only [resF]
    obtain ⟨g1, g2, g3⟩ := hmini.1 hm
    have hlen : 1 ≤ c.length := by
      cases c with
      | nil => exact absurd rfl g1
      | cons _ _ => simp
    have h8 : decide ((c.length : Int) ≤ 8) = true := by simp; omega
    have fin := fun k => signs_end c hcb g2 g1 1 e0 0 [] k
    rw [if_pos (by omega), h8, sluicewaylaw01_DerSigns.j0]
    by_cases h1 : (c.length : Int) > 1
    · obtain ⟨g4, g5⟩ := g3 (by omega)
      rw [if_pos h1, if_pos (by omega), if_pos rfl, if_pos (by omega)]
      by_cases h0 : rd c 0 = 0
      · rw [if_pos h0, if_neg (fun h => g4 ⟨h0, h⟩), if_neg (by omega)]
        exact fin 5
      · rw [if_neg h0]
        by_cases h255 : rd c 0 = 255
        · have hq : rd c 1 < 128 := by
            by_cases hq : rd c 1 < 128
            · exact hq
            · exact absurd ⟨h255, hq⟩ g5
          rw [if_pos h255]
          simp only [hq, decide_true, Bool.not_true, Bool.not_false]
          exact fin 5
        · rw [if_neg h255]
          exact fin 5
    · rw [if_neg h1]
      exact fin 5
  · have he : ¬ eqB (numN 7 (valL c)) c = true := fun h => hm (hnb.1 ((eqB_iff (numN_bs 7 _) hcb).1 h))
    rw [if_neg he]
    simp only [resF]
    have bad : ∀ k x1 x2 x3 x4 x5, sluicewaylaw01_DerSigns.j1 (k + 1) c true 2 (c.length : Int) false x1 x2 x3 x4 x5 = some true := by
      intro k x1 x2 x3 x4 x5
      rw [sluicewaylaw01_DerSigns.j1, if_neg (by simp), if_pos rfl]; rfl
    by_cases hlen : (c.length : Int) ≥ 1
    · rw [if_pos hlen, sluicewaylaw01_DerSigns.j0]
      by_cases h8 : (c.length : Int) ≤ 8
      · have h8' : decide ((c.length : Int) ≤ 8) = true := by simpa using h8
        rw [h8']
        have hne : c ≠ [] := by rintro rfl; simp at hlen
        have h1 : (c.length : Int) > 1 := by
          by_cases h1 : (c.length : Int) > 1
          · exact h1
          · exact absurd (hmini.2 ⟨hne, by omega, fun h => absurd h (by omega)⟩) hm
        rw [if_pos h1, if_pos (by omega), if_pos rfl, if_pos (by omega)]
        have hor : (rd c 0 = 0 ∧ rd c 1 < 128) ∨ (rd c 0 = 255 ∧ ¬ rd c 1 < 128) := by
          by_cases ha : rd c 0 = 0 ∧ rd c 1 < 128
          · exact .inl ha
          · by_cases hb2 : rd c 0 = 255 ∧ ¬ rd c 1 < 128
            · exact .inr hb2
            · exact absurd (hmini.2 ⟨hne, by omega, fun _ => ⟨ha, hb2⟩⟩) hm
        rcases hor with ⟨ha, hq⟩ | ⟨ha, hq⟩
        · rw [if_pos ha, if_pos hq]
          exact bad 18 _ _ _ _ _
        · rw [if_neg (by omega), if_pos ha]
          have hd : (!(!(decide (rd c 1 < 128)))) = false := by simp; omega
          rw [hd]
          exact bad 18 _ _ _ _ _
      · have h8' : decide ((c.length : Int) ≤ 8) = false := by simpa using h8
        rw [h8', if_pos (by omega), if_pos (by omega), if_neg (by simp)]
        exact bad 18 _ _ _ _ _
    · rw [if_neg hlen, sluicewaylaw01_DerSigns.j0, if_neg (by omega)]
      exact bad 18 _ _ _ _ _
end Go.Proofs.Ytpphoifjhhidfaa.Pure
