/- The plain law DerBytes. -/
import Derived.Test.YtpphoifjhhidfaaGDerBytesx7
import Derived.Test.YtpphoifjhhidfaaRefWr
namespace Go.Proofs.Ytpphoifjhhidfaa.Pure
set_option linter.unusedVariables false
set_option linter.unusedSimpArgs false
open Go.RowKit Go.Proofs.Ytpphoifjhhidfaa.Der Go.Proofs.Ytpphoifjhhidfaa.GDerBytes Go.Proofs.YtpphoifjhhidfaaW.PrintWords Go.Proofs.YtpphoifjhhidfaaW.PrintLast
theorem eta24 (t : S24) : (⟨t.f0, t.f1, t.f2, t.f3, t.f4⟩ : S24) = t := by cases t; rfl
def CntT (t : S24) : Prop := szT t ≤ 1048576 → ∀ k : Nat, 2 * szT t ≤ k → ∃ r : Int, (1 ≤ r ∧ r ≤ 2001) ∧ sluicewaylaw01_count.f k t.f0 t.f1 t.f2 t.f3 t.f4 = some r
def CntL (ts : List S24) : Prop := szL ts ≤ 1048576 → ∀ (a b : Int) (s : ByteArray) (g : Int) (full : List S24) (i : Nat), full.length ≤ 1048576 → i ≤ full.length → full.drop i = ts → ∀ (k : Nat) (x : Int), 1 + 2 * szL ts ≤ k → 1 ≤ x → x ≤ 4001 → ∃ r : Int, (1 ≤ r ∧ r ≤ 2001) ∧ sluicewaylaw01_count.l0 k x (i : Int) a b s g full = some r
theorem cnt_mn (x : Int) (h : 1 ≤ x) : 1 ≤ mn x 2001 ∧ mn x 2001 ≤ 2001 := by unfold mn; split <;> omega
theorem cntL_nil : CntL [] := by
  intro _ a b s g full i hf hi hd k x hk h1 h2
  have hl : full.length ≤ i := by
    have := congrArg List.length hd
    simp at this; omega
  obtain ⟨k, rfl⟩ : ∃ m, k = m + 1 := ⟨k - 1, by omega⟩
  rw [sluicewaylaw01_count.l0, if_neg (by omega)]
  exact ⟨_, cnt_mn x h1, rfl⟩
theorem cntL_cons (t : S24) (r : List S24) (H1 : CntT t) (H2 : CntL r) : CntL (t :: r) := by
  intro hsz a b s g full i hf hi hd k x hk h1 h2
  have hp := szT_pos t
  rw [szL] at hsz hk
  have hlt : i < full.length := by
    rcases Nat.lt_or_ge i full.length with h | h
    · exact h
    · rw [List.drop_eq_nil_of_le h] at hd; cases hd
  have hd2 := hd
  rw [List.drop_eq_getElem_cons hlt] at hd2
  injection hd2 with e1 e2
  obtain ⟨k, rfl⟩ : ∃ m, k = m + 1 := ⟨k - 1, by omega⟩
  rw [sluicewaylaw01_count.l0, if_pos (by omega)]
  by_cases h3 : x ≤ 2000
  · rw [if_pos h3, if_pos (by omega)]
    have hrd : rd_T24 full (i : Int) = t := by
      unfold rd_T24
      rw [Int.toNat_natCast, List.getD_eq_getElem?_getD, List.getElem?_eq_getElem hlt, Option.getD_some, e1]
    obtain ⟨q, hq, hc⟩ := H1 (by omega) k (by omega)
    rw [hrd, hc, Option.bind_some, show wrap64 ((i : Int) + 1) = ((i + 1 : Nat) : Int) by unfold wrap64; omega, show wrap64 (x + q) = x + q by unfold wrap64; omega]
    exact H2 (by omega) a b s g full (i + 1) hf (by omega) e2 k (x + q) (by omega) (by omega) (by omega)
  · rw [if_neg h3]
    exact ⟨_, cnt_mn x h1, rfl⟩
theorem cnt_of (k n : Int) (s : ByteArray) (g : Int) (ts : List S24) (IH : CntL ts) : CntT ⟨k, n, s, g, ts⟩ := by
  intro hsz K hK
  rw [szT] at hsz hK
  have hl := szL_len ts
  obtain ⟨K, rfl⟩ : ∃ m, K = m + 1 := ⟨K - 1, by omega⟩
  show ∃ r : Int, (1 ≤ r ∧ r ≤ 2001) ∧ sluicewaylaw01_count.f (K + 1) k n s g ts = some r
  rw [sluicewaylaw01_count.f]
  exact IH (by omega) k n s g ts 0 (by omega) (by omega) rfl K 1 (by omega) (by omega) (by omega)
mutual
theorem cnt : ∀ t : S24, CntT t
  | ⟨k, n, s, g, ts⟩ => cnt_of k n s g ts (cntL ts)
theorem cntL : ∀ ts : List S24, CntL ts
  | [] => cntL_nil
  | t :: r => cntL_cons t r (cnt t) (cntL r)
end
theorem cnt_wt (t : S24) (hw : wtT t ≤ 1048576) (k : Nat) (hk : 2097152 ≤ k) : ∃ r : Int, (1 ≤ r ∧ r ≤ 2001) ∧ sluicewaylaw01_count.f k t.f0 t.f1 t.f2 t.f3 t.f4 = some r := by
  have := szT_wt t
  exact cnt t (by omega) k (by omega)
theorem bytes_true (t : S24) (hg : rngT t) (hw : wtT t ≤ 1048576) : sluicewaylaw01_DerBytes.f 4194304 t.f0 t.f1 t.f2 t.f3 t.f4 = some true := by
  obtain ⟨r, hr, hc⟩ := cnt_wt t hw 4194304 (by omega)
  obtain ⟨p, e, hb, hp, hl, hcase⟩ := bytesF_wt t hg hw
  have hs : sluicewaylaw01_shown.f = some true := rfl
  have hsz := szT_wt t
  have hby : der_Bytes.f t.f0 t.f1 t.f2 t.f3 t.f4 = some (p, e) := by
    show bytesF ⟨t.f0, t.f1, t.f2, t.f3, t.f4⟩ = _
    rw [eta24]; exact hb
  have hri : der_Right.f t.f0 t.f1 t.f2 t.f3 t.f4 = some (rightT t 20) := by
    show rightF ⟨t.f0, t.f1, t.f2, t.f3, t.f4⟩ = _
    rw [eta24]
    exact if_pos (okT_wt t hw)
  have hsa : der_Same.f t.f0 t.f1 t.f2 t.f3 t.f4 t.f0 t.f1 t.f2 t.f3 t.f4 = some true := by
    show sameF ⟨t.f0, t.f1, t.f2, t.f3, t.f4⟩ ⟨t.f0, t.f1, t.f2, t.f3, t.f4⟩ = _
    rw [eta24, sameF, if_pos (by omega), (same_iff t t).2 rfl]
  unfold sluicewaylaw01_DerBytes.f
  rw [hs, hc]
  simp only [Option.bind_some]
  by_cases h1 : r > 2000
  · rw [if_pos h1]
  rw [if_neg h1, hby, ofT_eq t (by omega) 4194304 (by omega)]
  simp only [Option.bind_some]
  rw [refBytes t hg hw 4194304 (by omega) p e hb]
  simp only [Option.bind_some, if_true]
  rw [hri]
  simp only [Option.bind_some]
  rw [refRight t hw 4194304 (by omega)]
  simp only [Option.bind_some, beq_self_eq_true, if_true]
  rw [hsa]
  rfl
end Go.Proofs.Ytpphoifjhhidfaa.Pure
