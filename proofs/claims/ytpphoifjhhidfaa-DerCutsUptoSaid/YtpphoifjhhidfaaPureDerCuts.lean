/- The plain law DerCuts. -/
import Derived.Test.YtpphoifjhhidfaaGDerCutsx2
import Derived.Test.YtpphoifjhhidfaaTree
namespace Go.Proofs.Ytpphoifjhhidfaa.Pure
set_option linter.unusedVariables false
set_option linter.unusedSimpArgs false
open Go.RowKit Go.Proofs.Ytpphoifjhhidfaa.Der Go.Proofs.Ytpphoifjhhidfaa.GDerCuts Go.Proofs.YtpphoifjhhidfaaW.PrintWords Go.Proofs.YtpphoifjhhidfaaW.PrintLast
theorem eta24 (t : S24) : (⟨t.f0, t.f1, t.f2, t.f3, t.f4⟩ : S24) = t := by cases t; rfl
def CntT (t : S24) : Prop := szT t ≤ 1048576 → ∀ k : Nat, 2 * szT t ≤ k → ∃ r : Int, (1 ≤ r ∧ r ≤ 2001) ∧ sluicewaylaw01_count.f k t.f0 t.f1 t.f2 t.f3 t.f4 = some r
def CntL (ts : List S24) : Prop := szL ts ≤ 1048576 → ∀ (a b : Int) (s : ByteArray) (g : Int) (full : List S24) (i : Nat), full.length ≤ 1048576 → i ≤ full.length → full.drop i = ts → ∀ (k : Nat) (x : Int), 1 + 2 * szL ts ≤ k → 1 ≤ x → x ≤ 4001 → ∃ r : Int, (1 ≤ r ∧ r ≤ 2001) ∧ sluicewaylaw01_count.l0 k x (i : Int) a b s g full = some r
theorem cnt_mn (x : Int) (h : 1 ≤ x) : 1 ≤ mn x 2001 ∧ mn x 2001 ≤ 2001 := by unfold mn; split <;> omega
theorem cntL_nil : CntL [] := by
  intro _ a b s g full i hf hi hd k x hk h1 h2
  have hl : full.length ≤ i := by
    have := congrArg List.length hd
    simp at this; omega
  obtain ⟨k, rfl⟩ : ∃ m, k = m + 1 := ⟨k - 1, by omega⟩
  rw [sluicewaylaw01_count.l0, if_neg (by omega)]
  exact ⟨_, cnt_mn x h1, rfl⟩
theorem cntL_cons (t : S24) (r : List S24) (H1 : CntT t) (H2 : CntL r) : CntL (t :: r) := by
  intro hsz a b s g full i hf hi hd k x hk h1 h2
  have hp := szT_pos t
  rw [szL] at hsz hk
  have hlt : i < full.length := by
    rcases Nat.lt_or_ge i full.length with h | h
    · exact h
    · rw [List.drop_eq_nil_of_le h] at hd; cases hd
  have hd2 := hd
  rw [List.drop_eq_getElem_cons hlt] at hd2
  injection hd2 with e1 e2
  obtain ⟨k, rfl⟩ : ∃ m, k = m + 1 := ⟨k - 1, by omega⟩
  rw [sluicewaylaw01_count.l0, if_pos (by omega)]
  by_cases h3 : x ≤ 2000
  · rw [if_pos h3, if_pos (by omega)]
    have hrd : rd_T24 full (i : Int) = t := by
      unfold rd_T24
      rw [Int.toNat_natCast, List.getD_eq_getElem?_getD, List.getElem?_eq_getElem hlt, Option.getD_some, e1]
    obtain ⟨q, hq, hc⟩ := H1 (by omega) k (by omega)
    rw [hrd, hc, Option.bind_some, show wrap64 ((i : Int) + 1) = ((i + 1 : Nat) : Int) by unfold wrap64; omega, show wrap64 (x + q) = x + q by unfold wrap64; omega]
    exact H2 (by omega) a b s g full (i + 1) hf (by omega) e2 k (x + q) (by omega) (by omega) (by omega)
  · rw [if_neg h3]
    exact ⟨_, cnt_mn x h1, rfl⟩
theorem cnt_of (k n : Int) (s : ByteArray) (g : Int) (ts : List S24) (IH : CntL ts) : CntT ⟨k, n, s, g, ts⟩ := by
  intro hsz K hK
  rw [szT] at hsz hK
  have hl := szL_len ts
  obtain ⟨K, rfl⟩ : ∃ m, K = m + 1 := ⟨K - 1, by omega⟩
  show ∃ r : Int, (1 ≤ r ∧ r ≤ 2001) ∧ sluicewaylaw01_count.f (K + 1) k n s g ts = some r
  rw [sluicewaylaw01_count.f]
  exact IH (by omega) k n s g ts 0 (by omega) (by omega) rfl K 1 (by omega) (by omega) (by omega)
mutual
theorem cnt : ∀ t : S24, CntT t
  | ⟨k, n, s, g, ts⟩ => cnt_of k n s g ts (cntL ts)
theorem cntL : ∀ ts : List S24, CntL ts
  | [] => cntL_nil
  | t :: r => cntL_cons t r (cnt t) (cntL r)
end
theorem cnt_wt (t : S24) (hw : wtT t ≤ 1048576) (k : Nat) (hk : 2097152 ≤ k) : ∃ r : Int, (1 ≤ r ∧ r ≤ 2001) ∧ sluicewaylaw01_count.f k t.f0 t.f1 t.f2 t.f3 t.f4 = some r := by
  have := szT_wt t
  exact cnt t (by omega) k (by omega)
theorem and_mask (a : Int) (m : Nat) (hm : m < 9223372036854775808) : 0 ≤ Go.bits .and .i64 a (m : Int) ∧ Go.bits .and .i64 a (m : Int) ≤ m := by
  show 0 ≤ IntKind.i64.wrap (((BitVec.ofInt 64 a &&& BitVec.ofInt 64 (m : Int)).toNat : Nat) : Int) ∧ IntKind.i64.wrap (((BitVec.ofInt 64 a &&& BitVec.ofInt 64 (m : Int)).toNat : Nat) : Int) ≤ m
  rw [BitVec.toNat_and, BitVec.ofInt_natCast, BitVec.toNat_ofNat, Nat.mod_eq_of_lt (by omega)]
  have h : (BitVec.ofInt 64 a).toNat &&& m ≤ m := Nat.and_le_right
  generalize (BitVec.ofInt 64 a).toNat &&& m = z at *
  rw [IntKind.wrap_i64]
  omega
theorem cuts_true (t : S24) (a : Int) (hg : rngT t) (hw : wtT t ≤ 1048576) : sluicewaylaw01_DerCuts.f 2097152 t.f0 t.f1 t.f2 t.f3 t.f4 a = some true := by
  obtain ⟨r, hr, hc⟩ := cnt_wt t hw 2097152 (by omega)
  obtain ⟨p, e, hb, hp, hl, hcase⟩ := bytesF_wt t hg hw
  have hs : sluicewaylaw01_shown.f = some true := rfl
  have hby : der_Bytes.f t.f0 t.f1 t.f2 t.f3 t.f4 = some (p, e) := by
    show bytesF ⟨t.f0, t.f1, t.f2, t.f3, t.f4⟩ = _
    rw [eta24]; exact hb
  unfold sluicewaylaw01_DerCuts.f
  rw [hs, hc]
  simp only [Option.bind_some]
  by_cases h1 : r > 2000
  · rw [if_pos h1]
  rw [if_neg h1, hby]
  simp only [Option.bind_some]
  by_cases he : e = 0
  · rw [if_pos he]
    by_cases h0 : (p.length : Int) = 0
    · rw [if_pos h0]
    rw [if_neg h0]
    have hand := and_mask a 16777215 (by omega)
    rw [show ((16777215 : Nat) : Int) = 16777215 from rfl] at hand
    obtain ⟨i, hi⟩ : ∃ i : Nat, Int.tmod (Go.bits .and .i64 a 16777215) (p.length : Int) = (i : Int) := by
      refine ⟨(Int.tmod (Go.bits .and .i64 a 16777215) (p.length : Int)).toNat, ?_⟩
      rw [Int.tmod_eq_emod_of_nonneg hand.1]
      have := Int.emod_nonneg (Go.bits .and .i64 a 16777215) h0
      omega
    have hi2 : i < p.length := by
      rw [Int.tmod_eq_emod_of_nonneg hand.1] at hi
      have := Int.emod_lt_of_pos (Go.bits .and .i64 a 16777215) (show (0 : Int) < p.length by omega)
      omega
    rw [hi, if_pos (by omega), if_pos (by omega), Int.toNat_natCast]
    rcases hcase with ⟨_, h2, h3, _⟩ | ⟨h2, _⟩ | ⟨h2, _⟩
    · obtain ⟨r1, r2, r3, r4, r5, h4⟩ := cut_none t p h2 hg h3 hp hl i hi2
      have h5 : der_Of.f (p.take i) = some (r1, r2, r3, r4, r5, 2) := h4
      rw [h5]
      rfl
    · omega
    · omega
  · rw [if_neg he]
end Go.Proofs.Ytpphoifjhhidfaa.Pure
