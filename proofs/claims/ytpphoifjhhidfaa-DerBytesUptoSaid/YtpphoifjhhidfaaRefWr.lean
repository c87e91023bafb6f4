/- The document's Number, places, Length, Written, Bytes told against ours: plain laws. -/
import Derived.Test.YtpphoifjhhidfaaRefTree
namespace Go.Proofs.Ytpphoifjhhidfaa.Der
set_option linter.unusedVariables false
set_option linter.unusedSimpArgs false
open Go.RowKit Go.Proofs.Ytpphoifjhhidfaa.GDerBytes
open Go.Proofs.YtpphoifjhhidfaaW.PrintWords
open Go.Proofs.YtpphoifjhhidfaaW.PrintLast
theorem strOf_app (a b : List Int) : strOfNums (a ++ b) = strOfNums a ++ strOfNums b := by
  have h : (strOfNums (a ++ b)).data.toList = (strOfNums a ++ strOfNums b).data.toList := by
    rw [ByteArray.data_append, Array.toList_append, strOfNums_data, strOfNums_data, strOfNums_data, List.map_append]
  generalize strOfNums (a ++ b) = x at *
  generalize strOfNums a ++ strOfNums b = y at *
  obtain ⟨d⟩ := x
  obtain ⟨d'⟩ := y
  obtain ⟨l⟩ := d
  obtain ⟨l'⟩ := d'
  simp at h
  rw [h]
theorem strOf_size (a : List Int) : (strOfNums a).size = a.length := strOfNums_size a
theorem and255 (a : Int) : Go.bits .and .i64 a 255 = a % 256 := by
  show IntKind.i64.wrap (((BitVec.ofInt 64 a &&& BitVec.ofInt 64 255).toNat : Nat) : Int) = _
  rw [BitVec.toNat_and, show (BitVec.ofInt 64 255).toNat = 2 ^ 8 - 1 from by decide, Nat.and_two_pow_sub_one_eq_mod, BitVec.toNat_ofInt, IntKind.wrap_i64]
  rw [show ((2 ^ 64 : Nat) : Int) = 18446744073709551616 by decide]
  omega
theorem refNumber : ∀ (j : Nat) (x : Int) (k : Nat), j ≤ 7 → j + 1 ≤ k → -(128 * 256 ^ j) ≤ x → x < 128 * 256 ^ j → sluicewayref01_Number.f k x = some (strOfNums (numN j x)) := by
  intro j
  induction j with
  | zero =>
    intro x k _ hk h1 h2
    obtain ⟨k, rfl⟩ : ∃ m, k = m + 1 := ⟨k - 1, by omega⟩
    simp at h1 h2
    rw [sluicewayref01_Number.f, Option.bind_some, if_pos (by omega), if_pos (by omega), and255, numN, show x % 256 % 256 = x % 256 by omega]
  | succ j ih =>
    intro x k hj hk h1 h2
    obtain ⟨k, rfl⟩ : ∃ m, k = m + 1 := ⟨k - 1, by omega⟩
    have hp : (256 : Int) ^ (j + 1) = 256 ^ j * 256 := Int.pow_succ ..
    have hq : (256 : Int) ^ j ≤ 256 ^ 6 := pow6 j (by omega)
    rw [show (256 : Int) ^ 6 = 281474976710656 by decide] at hq
    rw [hp] at h1 h2
    have hd : wrap64 (Int.tdiv (wrap64 (x - x % 256)) 256) = x / 256 := by
      have e1 : wrap64 (x - x % 256) = x - x % 256 := by unfold wrap64; omega
      have e2 : x - x % 256 = 256 * (x / 256) := by omega
      rw [e1, e2, Int.mul_tdiv_cancel_left _ (by decide)]
      unfold wrap64; omega
    have hi := ih (x / 256) k (by omega) (by omega) (by omega) (by omega)
    have hl := (numN_len j (x / 256)).2
    rw [sluicewayref01_Number.f, Option.bind_some, and255, hd, hi]
    simp only [Option.bind_some]
    rw [numN, show x % 256 % 256 = x % 256 by omega]
    have hfit : (strOfNums (numN j (x / 256))).size + (strOfNums [x % 256]).size ≤ 9223372036854775807 := by rw [strOf_size, strOf_size]; simp; omega
    rw [if_pos hfit, ← strOf_app]
    by_cases hx : -128 ≤ x ∧ x ≤ 127
    · rw [if_pos (by omega), if_pos hx.2, if_pos hx]
    · rw [if_neg hx]
      by_cases h3 : x ≥ -128
      · rw [if_pos h3, if_neg (by omega)]
      · rw [if_neg h3]
theorem refPlaces : ∀ (j : Nat) (x : Int) (k : Nat), j ≤ 7 → j + 1 ≤ k → 0 ≤ x → x < 256 ^ j → sluicewayref01_places.f k x = some (strOfNums (digN j x)) := by
  intro j
  induction j with
  | zero =>
    intro x k _ hk h1 h2
    obtain ⟨k, rfl⟩ : ∃ m, k = m + 1 := ⟨k - 1, by omega⟩
    simp at h2
    rw [sluicewayref01_places.f, if_pos (by omega), digN]
    rfl
  | succ j ih =>
    intro x k hj hk h1 h2
    obtain ⟨k, rfl⟩ : ∃ m, k = m + 1 := ⟨k - 1, by omega⟩
    have hp : (256 : Int) ^ (j + 1) = 256 ^ j * 256 := Int.pow_succ ..
    have hq : (256 : Int) ^ j ≤ 256 ^ 6 := pow6 j (by omega)
    rw [show (256 : Int) ^ 6 = 281474976710656 by decide] at hq
    rw [hp] at h2
    rw [sluicewayref01_places.f, digN]
    by_cases h0 : x = 0
    · subst h0
      rw [if_pos rfl, if_neg (by omega)]; rfl
    · have e1 : Int.tdiv x 256 = x / 256 := Int.tdiv_eq_ediv_of_nonneg h1
      have e2 : Int.tmod x 256 = x % 256 := Int.tmod_eq_emod_of_nonneg h1
      have e3 : wrap64 (x / 256) = x / 256 := by unfold wrap64; omega
      have hl := digN_len j (x / 256)
      rw [if_neg h0, if_pos (by omega), e1, e2, e3, ih (x / 256) k (by omega) (by omega) (by omega) (by omega), Option.bind_some, Option.bind_some, show x % 256 % 256 = x % 256 by omega]
      rw [if_pos (by rw [strOf_size, strOf_size]; simp; omega), ← strOf_app]
theorem refLength (n k : Nat) (hn : n < 16777216) (hk : 8 ≤ k) : sluicewayref01_Length.f k (n : Int) = some (strOfNums (lenL n)) := by
  unfold sluicewayref01_Length.f lenL
  by_cases h : n < 128
  · rw [if_pos (by omega), if_pos h, show (n : Int) % 256 = n by omega]
  · have hl := digN_len2 3 7 (n : Int) (by simp; omega)
    rw [if_neg (by omega), if_neg h, refPlaces 7 (n : Int) k (by omega) (by omega) (by omega) (by simp; omega), Option.bind_some, Option.bind_some]
    simp only [strOf_size]
    rw [show wrap64 (128 + ((digN 7 (n : Int)).length : Int)) % 256 = 128 + ((digN 7 (n : Int)).length : Int) by unfold wrap64; omega]
    rw [if_pos (by simp; omega), ← strOf_app]; rfl
theorem wrL_len : ∀ (ts : List S24) (acc out : List Int), wrL ts acc = some out → acc.length ≤ out.length
  | [], acc, out, h => by rw [wrL] at h; obtain rfl := Option.some.inj h; omega
  | t :: r, acc, out, h => by
    rw [wrL] at h
    obtain ⟨x, _, h⟩ := Option.bind_eq_some_iff.mp h
    split at h
    · have := wrL_len r _ out h; simp at this; omega
    · cases h
def WfT (t : S24) : Prop := wtT t ≤ 1048576 → ∀ (l : Nat) (b : List Int), rightT t l = true → rngT t → wrO t = some b → b.length < 16777216 → ∀ k : Nat, 3 * wtT t + 20 ≤ k → sluicewayref01_Written.f k t.f0 t.f1 t.f2 t.f3 (cvL t.f4) = some (strOfNums b)
def WfL (ts : List S24) : Prop := wtL ts ≤ 1048576 → ∀ (l : Nat) (acc out : List Int), rightL ts l = true → rngL ts → wrL ts acc = some out → out.length < 16777216 → ∀ (x a b : Int) (s : ByteArray) (g : Int) (full : List S35) (i : Nat), 0 ≤ x ∧ x ≤ 255 → full.length ≤ 1048576 → i ≤ full.length → full.drop i = cvL ts → ∀ (k : Nat), 21 + 3 * wtL ts ≤ k → sluicewayref01_Written.l0 k (strOfNums acc) x (i : Int) a b s g full = some (strOfNums (x :: (lenL out.length ++ out)))
theorem wfL_nil : WfL [] := by
  intro _ l acc out hr hg h ho x a b s g full i hx hf hi hd k hk
  rw [wrL] at h
  obtain rfl := Option.some.inj h
  rw [cvL] at hd
  have hl := drop_nil_len hd
  have h4 := lenL_four acc.length ho
  obtain ⟨k, rfl⟩ : ∃ m, k = m + 1 := ⟨k - 1, by omega⟩
  rw [sluicewayref01_Written.l0, if_neg (by omega), Option.bind_some, strOf_size, refLength _ k ho (by omega), Option.bind_some, show x % 256 = x by omega]
  rw [if_pos (by rw [strOf_size, strOf_size]; simp; omega), if_pos (by rw [← strOf_app, strOf_size]; simp; omega), ← strOf_app, ← strOf_app]
  simp
theorem wfL_cons (t : S24) (r : List S24) (H1 : WfT t) (H2 : WfL r) : WfL (t :: r) := by
  intro hw l acc out hr hg h ho x a b s g full i hx hf hi hd k hk
  rw [rightL, Bool.and_eq_true] at hr
  rw [rngL] at hg
  rw [wtL] at hw hk
  rw [wrL] at h
  obtain ⟨y, hy, h⟩ := Option.bind_eq_some_iff.mp h
  split at h
  · have hlen := wrL_len r _ out h
    simp at hlen
    rw [cvL] at hd
    have hp := wtT_pos t
    obtain ⟨hlt, hrd, hd2⟩ := rd35 hd
    obtain ⟨k, rfl⟩ : ∃ m, k = m + 1 := ⟨k - 1, by omega⟩
    obtain ⟨c0, c1, c2, c3, c4⟩ := cv_f t
    rw [sluicewayref01_Written.l0, if_pos (by omega), if_pos (by omega), hrd, c0, c1, c2, c3, c4, H1 (by omega) l y hr.1 hg.1 hy (by omega) k (by omega), Option.bind_some]
    rw [if_pos (by rw [strOf_size, strOf_size]; omega), ← strOf_app, w1 i (by omega)]
    exact H2 (by omega) l _ out hr.2 hg.2 h ho x a b s g full (i + 1) hx hf (by omega) hd2 k (by omega)
  · cases h
theorem wf_of (k n : Int) (s : ByteArray) (g : Int) (ts : List S24) (IH : WfL ts) : WfT ⟨k, n, s, g, ts⟩ := by
  intro hw l b hr hg h hb K hK
  rw [wtT] at hw hK
  rw [rightT] at hr
  rw [rngT] at hg
  have hl := szL_len ts
  have hl2 := szL_wt ts
  have hnil : ts.isEmpty = true → ts = [] := List.isEmpty_iff.1
  rw [wrO] at h
  obtain ⟨c, hc, h⟩ := Option.bind_eq_some_iff.mp h
  obtain ⟨hk, rfl⟩ := head_inv h
  have hcl : c.length < 16777216 := by simp at hb; omega
  obtain ⟨K, rfl⟩ : ∃ m, K = m + 2 := ⟨K - 2, by omega⟩
  show sluicewayref01_Written.f (K + 1 + 1) k n s g (cvL ts) = _
  have hj : ∀ (x : Int) (acc : List Int), 0 ≤ x ∧ x ≤ 255 → rightL ts (l - 1) = true → wrL ts acc = some c → sluicewayref01_Written.j0 (K + 1) (strOfNums acc) x k n s g (cvL ts) = some (strOfNums (x :: (lenL c.length ++ c))) := by
    intro x acc hx hr' hwr
    rw [sluicewayref01_Written.j0]
    exact IH (by omega) (l - 1) acc c hr' hg.2 hwr hcl x k n s g (cvL ts) 0 hx (by rw [cvL_len]; omega) (by omega) rfl K (by omega)
  have hj0 : ts = [] → ∀ (x : Int), 0 ≤ x ∧ x ≤ 255 → sluicewayref01_Written.j0 (K + 1) (strOfNums c) x k n s g (cvL ts) = some (strOfNums (x :: (lenL c.length ++ c))) := by
    intro hts x hx
    refine hj x c hx ?_ ?_
    · rw [hts, rightL]
    · rw [hts, wrL]
  rw [sluicewayref01_Written.f]
  split at hr
  · cases hr
  rename_i hbad
  simp only [not_or, not_and] at hbad
  rw [contF] at hc
  split at hr
  · rename_i h1
    subst h1
    have hg0 : g = 0 := by omega
    subst hg0
    simp only [Bool.and_eq_true] at hr
    rw [if_pos rfl, number_eq n hg.1.1 hg.1.2] at hc
    obtain rfl := Option.some.inj hc
    rw [if_pos rfl, refNumber 7 n (K + 1) (by omega) (by omega) (by simp; omega) (by simp; omega), Option.bind_some, hj0 (hnil hr.2) 2 (by omega)]
    rw [show (identL 1 + 0 % 256) % 256 = 2 by decide]
  rename_i h1
  rw [if_neg h1] at hc
  rw [if_neg h1]
  split at hr
  · rename_i h4
    subst h4
    have hg0 : g = 0 := by omega
    subst hg0
    simp only [Bool.and_eq_true, Bool.or_eq_true, beq_iff_eq] at hr
    rw [if_pos rfl] at hc
    obtain rfl := Option.some.inj hc
    rw [if_neg (by omega), if_neg (by omega), if_pos rfl, show (identL 4 + 0 % 256) % 256 = 1 by decide]
    obtain ⟨_, h6, h7⟩ := hr
    rcases h7 with rfl | rfl
    · rw [if_neg (by omega)]
      have := hj0 (hnil h6) 1 (by omega)
      rw [show wrap64 (-0) % 256 = 0 by unfold wrap64; decide] at this ⊢
      exact this
    · rw [if_pos rfl]
      have := hj0 (hnil h6) 1 (by omega)
      rw [show wrap64 (-1) % 256 = 255 by unfold wrap64; decide] at this ⊢
      exact this
  rename_i h4
  rw [if_neg h4] at hc
  split at hr
  · rename_i h2
    subst h2
    have hg0 : g = 0 := by omega
    subst hg0
    simp only [Bool.and_eq_true] at hr
    rw [if_pos (.inl rfl)] at hc
    split at hc
    · obtain rfl := Option.some.inj hc
      have := hj0 (hnil hr.2) 4 (by omega)
      rw [str_bytes] at this
      rw [if_pos rfl, this, show (identL 2 + 0 % 256) % 256 = 4 by decide]
    · cases hc
  rename_i h2
  rw [if_neg h2]
  split at hr
  · rename_i h3
    subst h3
    have hg0 : g = 0 := by omega
    subst hg0
    simp only [Bool.and_eq_true] at hr
    rw [if_pos (.inr rfl)] at hc
    split at hc
    · obtain rfl := Option.some.inj hc
      have := hj0 (hnil hr.2.1) 12 (by omega)
      rw [str_bytes] at this
      rw [if_pos rfl, this, show (identL 3 + 0 % 256) % 256 = 12 by decide]
    · cases hc
  rename_i h3
  rw [if_neg (by simp [h2, h3])] at hc
  rw [if_neg h3, if_neg h4]
  simp only [Bool.and_eq_true] at hr
  have h56 : k = 5 ∨ k = 6 := by omega
  rcases h56 with rfl | rfl
  · have hg0 : g = 0 := by omega
    subst hg0
    have := hj 48 [] (by omega) hr.2.2 hc
    rw [if_pos rfl, show (identL 5 + 0 % 256) % 256 = 48 by decide]
    exact this
  · have := hj (160 + g) [] (by omega) hr.2.2 hc
    rw [if_neg (by omega), if_pos rfl, show wrap64 (160 + g) = 160 + g by unfold wrap64; omega, identL_6, show (160 + g % 256) % 256 = 160 + g by omega]
    exact this
mutual
theorem wf_eq : ∀ t : S24, WfT t
  | ⟨k, n, s, g, ts⟩ => wf_of k n s g ts (wfL_eq ts)
theorem wfL_eq : ∀ ts : List S24, WfL ts
  | [] => wfL_nil
  | t :: r => wfL_cons t r (wf_eq t) (wfL_eq r)
end
/-- The document's Bytes is ours. -/
theorem refBytes (t : S24) (hg : rngT t) (hw : wtT t ≤ 1048576) (k : Nat) (hk : 4194304 ≤ k) (p : List Int) (e : Int) (h : bytesF t = some (p, e)) : sluicewayref01_Bytes.f k t.f0 t.f1 t.f2 t.f3 (cvL t.f4) = some (strOfNums p, e) := by
  obtain ⟨p', e', h', hp, hl, hcase⟩ := bytesF_wt t hg hw
  rw [h] at h'
  simp only [Option.some.injEq, Prod.mk.injEq] at h'
  obtain ⟨rfl, rfl⟩ := h'
  unfold sluicewayref01_Bytes.f
  rw [refRight t hw k (by omega), Option.bind_some]
  rcases hcase with ⟨rfl, h1, h2, _⟩ | ⟨rfl, rfl, h1, c, h2, h3⟩ | ⟨rfl, rfl, h1⟩
  · rw [h1, if_pos rfl, wf_eq t hw 20 p h1 hg h2 (by omega) k (by omega), Option.bind_some, strOf_size, if_neg (by omega)]
  · obtain ⟨b, h4, h5, h6, h7⟩ := wrok t 20 h1 hg hw
    rw [h2] at h4
    obtain rfl := Option.some.inj h4
    rw [h1, if_pos rfl, wf_eq t hw 20 c h1 hg h2 (by omega) k (by omega), Option.bind_some, strOf_size, if_pos (by omega)]
    rfl
  · rw [h1, if_neg (by simp)]
    rfl
end Go.Proofs.Ytpphoifjhhidfaa.Der
