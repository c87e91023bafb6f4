/- The plain law DerUnlike. -/
import Derived.Test.YtpphoifjhhidfaaGDerUnlikex2
import Derived.Test.YtpphoifjhhidfaaTree
namespace Go.Proofs.Ytpphoifjhhidfaa.Pure
set_option linter.unusedVariables false
set_option linter.unusedSimpArgs false
open Go.RowKit Go.Proofs.Ytpphoifjhhidfaa.Der Go.Proofs.Ytpphoifjhhidfaa.GDerUnlike Go.Proofs.YtpphoifjhhidfaaW.PrintWords Go.Proofs.YtpphoifjhhidfaaW.PrintLast
theorem eta24 (t : S24) : (⟨t.f0, t.f1, t.f2, t.f3, t.f4⟩ : S24) = t := by cases t; rfl
def CntT (t : S24) : Prop := szT t ≤ 1048576 → ∀ k : Nat, 2 * szT t ≤ k → ∃ r : Int, (1 ≤ r ∧ r ≤ 2001) ∧ sluicewaylaw01_count.f k t.f0 t.f1 t.f2 t.f3 t.f4 = some r
def CntL (ts : List S24) : Prop := szL ts ≤ 1048576 → ∀ (a b : Int) (s : ByteArray) (g : Int) (full : List S24) (i : Nat), full.length ≤ 1048576 → i ≤ full.length → full.drop i = ts → ∀ (k : Nat) (x : Int), 1 + 2 * szL ts ≤ k → 1 ≤ x → x ≤ 4001 → ∃ r : Int, (1 ≤ r ∧ r ≤ 2001) ∧ sluicewaylaw01_count.l0 k x (i : Int) a b s g full = some r
theorem cnt_mn (x : Int) (h : 1 ≤ x) : 1 ≤ mn x 2001 ∧ mn x 2001 ≤ 2001 := by unfold mn; split <;> omega
theorem cntL_nil : CntL [] := by
  intro _ a b s g full i hf hi hd k x hk h1 h2
  have hl : full.length ≤ i := by
    have := congrArg List.length hd
    simp at this; omega
  obtain ⟨k, rfl⟩ : ∃ m, k = m + 1 := ⟨k - 1, by omega⟩
  rw [sluicewaylaw01_count.l0, if_neg (by omega)]
  exact ⟨_, cnt_mn x h1, rfl⟩
theorem cntL_cons (t : S24) (r : List S24) (H1 : CntT t) (H2 : CntL r) : CntL (t :: r) := by
  intro hsz a b s g full i hf hi hd k x hk h1 h2
  have hp := szT_pos t
  rw [szL] at hsz hk
  have hlt : i < full.length := by
    rcases Nat.lt_or_ge i full.length with h | h
    · exact h
    · rw [List.drop_eq_nil_of_le h] at hd; cases hd
  have hd2 := hd
  rw [List.drop_eq_getElem_cons hlt] at hd2
  injection hd2 with e1 e2
  obtain ⟨k, rfl⟩ : ∃ m, k = m + 1 := ⟨k - 1, by omega⟩
  rw [sluicewaylaw01_count.l0, if_pos (by omega)]
  by_cases h3 : x ≤ 2000
  · rw [if_pos h3, if_pos (by omega)]
    have hrd : rd_T24 full (i : Int) = t := by
      unfold rd_T24
      rw [Int.toNat_natCast, List.getD_eq_getElem?_getD, List.getElem?_eq_getElem hlt, Option.getD_some, e1]
    obtain ⟨q, hq, hc⟩ := H1 (by omega) k (by omega)
    rw [hrd, hc, Option.bind_some, show wrap64 ((i : Int) + 1) = ((i + 1 : Nat) : Int) by unfold wrap64; omega, show wrap64 (x + q) = x + q by unfold wrap64; omega]
    exact H2 (by omega) a b s g full (i + 1) hf (by omega) e2 k (x + q) (by omega) (by omega) (by omega)
  · rw [if_neg h3]
    exact ⟨_, cnt_mn x h1, rfl⟩
theorem cnt_of (k n : Int) (s : ByteArray) (g : Int) (ts : List S24) (IH : CntL ts) : CntT ⟨k, n, s, g, ts⟩ := by
  intro hsz K hK
  rw [szT] at hsz hK
  have hl := szL_len ts
  obtain ⟨K, rfl⟩ : ∃ m, K = m + 1 := ⟨K - 1, by omega⟩
  show ∃ r : Int, (1 ≤ r ∧ r ≤ 2001) ∧ sluicewaylaw01_count.f (K + 1) k n s g ts = some r
  rw [sluicewaylaw01_count.f]
  exact IH (by omega) k n s g ts 0 (by omega) (by omega) rfl K 1 (by omega) (by omega) (by omega)
mutual
theorem cnt : ∀ t : S24, CntT t
  | ⟨k, n, s, g, ts⟩ => cnt_of k n s g ts (cntL ts)
theorem cntL : ∀ ts : List S24, CntL ts
  | [] => cntL_nil
  | t :: r => cntL_cons t r (cnt t) (cntL r)
end
theorem cnt_wt (t : S24) (hw : wtT t ≤ 1048576) (k : Nat) (hk : 2097152 ≤ k) : ∃ r : Int, (1 ≤ r ∧ r ≤ 2001) ∧ sluicewaylaw01_count.f k t.f0 t.f1 t.f2 t.f3 t.f4 = some r := by
  have := szT_wt t
  exact cnt t (by omega) k (by omega)
theorem unlike_true (t t' : S24) (hg : rngT t) (hg' : rngT t') (hw : wtT t ≤ 1048576) (hw' : wtT t' ≤ 1048576) : sluicewaylaw01_DerUnlike.f 2097152 t.f0 t.f1 t.f2 t.f3 t.f4 t'.f0 t'.f1 t'.f2 t'.f3 t'.f4 = some true := by
  obtain ⟨r, hr, hc⟩ := cnt_wt t hw 2097152 (by omega)
  obtain ⟨r', hr', hc'⟩ := cnt_wt t' hw' 2097152 (by omega)
  obtain ⟨p, e, hb, hp, hl, hcase⟩ := bytesF_wt t hg hw
  obtain ⟨p', e', hb', hp', hl', hcase'⟩ := bytesF_wt t' hg' hw'
  have hs : sluicewaylaw01_shown.f = some true := rfl
  have hsz := szT_wt t
  have hsz' := szT_wt t'
  have hsame : ∀ a b : S24, szT a ≤ 4611686018427387904 → der_Same.f a.f0 a.f1 a.f2 a.f3 a.f4 b.f0 b.f1 b.f2 b.f3 b.f4 = some (sameT a b) := by
    intro a b h
    show sameF ⟨a.f0, a.f1, a.f2, a.f3, a.f4⟩ ⟨b.f0, b.f1, b.f2, b.f3, b.f4⟩ = _
    rw [eta24, eta24]
    exact if_pos h
  have hby : der_Bytes.f t.f0 t.f1 t.f2 t.f3 t.f4 = some (p, e) := by
    show bytesF ⟨t.f0, t.f1, t.f2, t.f3, t.f4⟩ = _
    rw [eta24]; exact hb
  have hby' : der_Bytes.f t'.f0 t'.f1 t'.f2 t'.f3 t'.f4 = some (p', e') := by
    show bytesF ⟨t'.f0, t'.f1, t'.f2, t'.f3, t'.f4⟩ = _
    rw [eta24]; exact hb'
  have hswap : sameT t' t = sameT t t' := by
    rw [Bool.eq_iff_iff, same_iff, same_iff]
    exact eq_comm
  have hj : ∀ v : Bool, sluicewaylaw01_DerUnlike.j0 2097152 true v t.f0 t.f1 t.f2 t.f3 t.f4 t'.f0 t'.f1 t'.f2 t'.f3 t'.f4 = some true := by
    intro v
    rw [show (2097152 : Nat) = 2097151 + 1 from rfl, sluicewaylaw01_DerUnlike.j0]
    by_cases hv : v = true
    · rw [if_pos hv]
    · rw [if_neg hv, hby, hby', hsame t t' (by omega), hsame t' t (by omega), hswap]
      simp only [Option.bind_some, bne_self_eq_false, Bool.false_eq_true, if_false, if_true]
      have heq : sameT t t' = true → e = e' := by
        intro h
        have h1 := (same_iff t t').1 h
        rw [h1, hb'] at hb
        simp at hb
        exact hb.2.symm
      by_cases he : e = 0
      · rw [if_pos he]
        by_cases he' : e' = 0
        · rw [if_pos he']
          congr 1
          rcases hcase with ⟨_, h1, h2, _⟩ | ⟨h1, _⟩ | ⟨h1, _⟩
          · rcases hcase' with ⟨_, h3, h4, _⟩ | ⟨h3, _⟩ | ⟨h3, _⟩
            · rw [beq_iff_eq, Bool.eq_iff_iff, beq_iff_eq, same_iff]
              constructor
              · intro h
                rw [h, hb'] at hb
                simp at hb
                rw [hb.1]
              · intro h
                have h5 := strOf_inj hp hp' h
                rw [← h5] at h4
                exact wr_inj h1 h3 hg hg' h2 h4 hl
            · omega
            · omega
          · omega
          · omega
        · rw [if_neg he']
          by_cases hq : sameT t t' = true
          · rw [if_pos hq, heq hq]; simp
          · rw [if_neg hq]
      · rw [if_neg he]
        by_cases hq : sameT t t' = true
        · rw [if_pos hq, heq hq]; simp
        · rw [if_neg hq]
  unfold sluicewaylaw01_DerUnlike.f
  rw [hs, hc]
  simp only [Option.bind_some]
  by_cases h1 : r > 2000
  · rw [if_pos h1]; exact hj _
  · rw [if_neg h1, hc']
    simp only [Option.bind_some]
    exact hj _
end Go.Proofs.Ytpphoifjhhidfaa.Pure
