/- The plain law DerTexts. -/
import Derived.Test.YtpphoifjhhidfaaGDerTextsx2
import Derived.Test.YtpphoifjhhidfaaTh4
namespace Go.Proofs.Ytpphoifjhhidfaa.Pure
set_option linter.unusedVariables false
set_option linter.unusedSimpArgs false
open Go.RowKit Go.Proofs.Ytpphoifjhhidfaa.Der Go.Proofs.Ytpphoifjhhidfaa.GDerTexts Go.Proofs.YtpphoifjhhidfaaW.PrintWords Go.Proofs.YtpphoifjhhidfaaW.PrintLast
-- needs Th4
theorem texts_loop (s : ByteArray) (hs : s.size ≤ 300) : ∀ (m j : Nat) (x4 : Bool) (F : Nat), j + m = s.size → sluicewaylaw01_DerTexts.l0 (F + m + 1) s true x4 (j : Int) = sluicewaylaw01_DerTexts.l0 (F + 1) s true (x4 && plainL ((bytesOf s).drop j)) (s.size : Int) := by
  intro m
  induction m with
  | zero =>
    intro j x4 F h
    obtain rfl : j = s.size := by omega
    rw [List.drop_eq_nil_of_le (by rw [bytesOf_length]; omega)]
    simp [plainL]
  | succ m ih =>
    intro j x4 F h
    have hj : j < (bytesOf s).length := by rw [bytesOf_length]; omega
    have hd : (bytesOf s).drop j = (bytesOf s).getD j 0 :: (bytesOf s).drop (j + 1) := by
      rw [List.drop_eq_getElem_cons hj]; simp [List.getD_eq_getElem?_getD, hj]
    have hb : bt s (j : Int) = (bytesOf s).getD j 0 := (rd_bytesOf s j).symm
    have hw : wrap64 ((j : Int) + 1) = ((j + 1 : Nat) : Int) := by unfold wrap64; omega
    have hp : plainL ((bytesOf s).drop j) = (plainB ((bytesOf s).getD j 0) && plainL ((bytesOf s).drop (j + 1))) := by rw [hd]; rfl
    rw [show F + (m + 1) + 1 = (F + m + 1) + 1 by omega, sluicewaylaw01_DerTexts.l0, if_pos (by omega), hw, hb, hp]
    by_cases hx : x4 = true
    · rw [if_pos hx, if_pos (by omega), hx, Bool.true_and]
      by_cases h32 : (bytesOf s).getD j 0 ≥ 32
      · rw [if_pos h32, ih (j + 1) _ F (by omega)]
        unfold plainB
        rw [show decide (32 ≤ (bytesOf s).getD j 0) = true by simpa using h32, Bool.true_and]
      · rw [if_neg h32, ih (j + 1) _ F (by omega)]
        unfold plainB
        rw [show decide (32 ≤ (bytesOf s).getD j 0) = false from decide_eq_false (by omega)]
        simp
    · rw [if_neg hx, ih (j + 1) _ F (by omega)]
      simp at hx
      subst hx
      simp
theorem leaf_bytes (k : Int) (s : ByteArray) (hs : s.size ≤ 300) (hk : k = 2 ∨ k = 3) (hr : rightT ⟨k, 0, s, 0, []⟩ 20 = true) : bytesF ⟨k, 0, s, 0, []⟩ = some (identL k :: (lenL s.size ++ bytesOf s), 0) := by
  have hok : okT ⟨k, 0, s, 0, []⟩ = true := by
    rw [okT, szT, szL, txB, txBL]
    simp
    omega
  have hlen : (lenL s.size).length ≤ 8 := by
    unfold lenL; split
    · simp
    · have := digN_len 7 (s.size : Int); simp; omega
  have hid : (identL k + 0 % 256) % 256 = identL k := by rcases hk with rfl | rfl <;> decide
  have hbl : (bytesOf s).length = s.size := bytesOf_length s
  have hw : wrO ⟨k, 0, s, 0, []⟩ = some (identL k :: (lenL s.size ++ bytesOf s)) := by
    rw [wrO, contF, if_neg (by omega), if_neg (by omega), if_pos hk, if_pos (by omega), Option.bind_some]
    have := head_ok k 0 (identL k) (bytesOf s) (by omega) (by omega) hid
    rwa [hbl] at this
  unfold bytesF
  rw [if_pos hok, if_pos hr, hw, Option.bind_some, if_neg (by simp; omega)]
theorem DerTexts : sluicewaylaw01_DerTexts.Pure := by
  intro a0 ha
  refine ⟨400, ?_⟩
  unfold sluicewaylaw01_DerTexts.f
  have hs : sluicewaylaw01_shown.f = some true := rfl
  simp only [hs, Option.bind_some]
  rw [if_pos (by unfold mn; split <;> omega), if_pos (by unfold mn; split <;> omega)]
  have hsz : (a0.extract 0 ((mn (a0.size : Int) 300) : Int).toNat).size ≤ 300 := by rw [ByteArray.size_extract]; unfold mn; split <;> omega
  generalize a0.extract 0 ((mn (a0.size : Int) 300) : Int).toNat = s at *
  have hbl : (bytesOf s).length = s.size := bytesOf_length s
  have hl := texts_loop s hsz s.size 0 true (399 - s.size) (by omega)
  rw [show 399 - s.size + s.size + 1 = 400 by omega, List.drop_zero, Bool.true_and] at hl
  have hpS : plainL (bytesOf s) = plainS s := rfl
  rw [hpS] at hl
  rw [show ((0 : Nat) : Int) = 0 from rfl] at hl
  rw [hl, sluicewaylaw01_DerTexts.l0, if_neg (by omega)]
  have hB2 : der_Bytes.f 2 0 s 0 [] = some (4 :: (lenL s.size ++ bytesOf s), 0) := leaf_bytes 2 s hsz (.inl rfl) (by rw [rightT]; simp)
  have hof : ∀ x : Int, 0 ≤ x ∧ x ≤ 255 → der_Of.f (x :: (lenL s.size ++ bytesOf s)) = (bodyO K19 x (bytesOf s)).map resF := by
    intro x hx
    have := of_one x (bytesOf s) hx (bytesOf_bs s) (by omega)
    rw [hbl] at this
    exact this
  have hO4 : der_Of.f (4 :: (lenL s.size ++ bytesOf s)) = some (2, 0, s, 0, [], 0) := by
    rw [hof 4 (by omega), bodyO, if_neg (by omega), if_neg (by omega), if_pos rfl, str_bytes]
    rfl
  have hO12 : der_Of.f (12 :: (lenL s.size ++ bytesOf s)) = some (resF (if plainS s = true then some ⟨3, 0, s, 0, []⟩ else none)) := by
    rw [hof 12 (by omega), bodyO, if_neg (by omega), if_neg (by omega), if_neg (by omega), if_pos rfl, str_bytes]
    rfl
  obtain ⟨F, hF⟩ : ∃ F, 399 - s.size = F + 1 := ⟨398 - s.size, by omega⟩
  have tail : ∀ (x8 : List Int) (x9 : Int), (plainS s = true → x8 = 12 :: (lenL s.size ++ bytesOf s)) → (¬ plainS s = true → x9 = 1) → sluicewaylaw01_DerTexts.j1 (F + 1) s true (plainS s) (4 :: (lenL s.size ++ bytesOf s)) x8 x9 false = some true := by
    intro x8 x9 h8 h9
    rw [sluicewaylaw01_DerTexts.j1, if_neg (by decide)]
    simp only [Option.bind_some]
    rw [if_pos (by simp; omega)]
    have hlen : (lenL s.size).length ≤ 8 := by
      unfold lenL; split
      · simp
      · have := digN_len 7 (s.size : Int); simp; omega
    simp only [Option.bind_some, List.drop_succ_cons, List.drop_zero]
    rw [if_pos (by simp; omega)]
    have hO' : der_Of.f ([12] ++ (lenL s.size ++ bytesOf s)) = some (resF (if plainS s = true then some ⟨3, 0, s, 0, []⟩ else none)) := hO12
    rw [hO']
    simp only [Option.bind_some]
    by_cases hp : plainS s = true
    · rw [if_pos hp, if_pos hp, if_pos trivial]
      rw [h8 hp]
      simp [resF]
    · rw [if_neg hp, if_neg hp, if_pos trivial, if_pos (h9 hp)]
      rfl
  rw [hB2]
  simp only [Option.bind_some]
  by_cases hp : plainS s = true
  · have hB3 : der_Bytes.f 3 0 s 0 [] = some (12 :: (lenL s.size ++ bytesOf s), 0) := leaf_bytes 3 s hsz (.inr rfl) (by rw [rightT]; simp [hp])
    rw [hB3, hO4]
    simp only [Option.bind_some]
    simp only [if_true]
    have hb : (((0 : Int) == 0) != plainS s) = false := by rw [hp]; decide
    rw [hb, hF]
    exact tail _ _ (fun _ => rfl) (fun h => absurd hp h)
  · have hp' : plainS s = false := by simpa using hp
    have hB3 : der_Bytes.f 3 0 s 0 [] = some ([], 1) := by
      show bytesF ⟨3, 0, s, 0, []⟩ = _
      have hok : okT ⟨3, 0, s, 0, []⟩ = true := by
        rw [okT, szT, szL, txB, txBL]
        simp
        omega
      unfold bytesF
      rw [if_pos hok, if_neg (by rw [rightT]; simp [hp'])]
    rw [hB3, hO4]
    simp only [Option.bind_some]
    simp only [if_true]
    have hb : (((1 : Int) == 0) != plainS s) = false := by rw [hp']; decide
    rw [hb, hF]
    exact tail _ _ (fun h => absurd h hp) (fun _ => rfl)
end Go.Proofs.Ytpphoifjhhidfaa.Pure
