/- The document's functions over nodes (deep, visible, shape, Right, Number, places, Length, Written, Bytes), and 'of', told against ours: plain laws. -/
import Derived.Test.YtpphoifjhhidfaaGDerBytesx6
import Derived.Test.YtpphoifjhhidfaaTree
namespace Go.Proofs.Ytpphoifjhhidfaa.Der
set_option linter.unusedVariables false
set_option linter.unusedSimpArgs false
open Go.RowKit Go.Proofs.Ytpphoifjhhidfaa.GDerBytes
open Go.Proofs.YtpphoifjhhidfaaW.PrintWords
open Go.Proofs.YtpphoifjhhidfaaW.PrintLast
mutual
/-- A node as the document's. -/
def cvT : S24 → S35
  | ⟨k, n, s, g, ts⟩ => ⟨k, n, s, g, cvL ts⟩
def cvL : List S24 → List S35
  | [] => []
  | t :: r => cvT t :: cvL r
end
theorem cvL_len : ∀ ts : List S24, (cvL ts).length = ts.length
  | [] => by rw [cvL]; rfl
  | t :: r => by rw [cvL, List.length_cons, List.length_cons, cvL_len r]
theorem cvL_app : ∀ a b : List S24, cvL (a ++ b) = cvL a ++ cvL b
  | [], b => by rw [cvL]; rfl
  | t :: r, b => by rw [List.cons_append, cvL, cvL, cvL_app r b]; rfl
theorem cv_f (t : S24) : (cvT t).f0 = t.f0 ∧ (cvT t).f1 = t.f1 ∧ (cvT t).f2 = t.f2 ∧ (cvT t).f3 = t.f3 ∧ (cvT t).f4 = cvL t.f4 := by
  cases t; rw [cvT]; exact ⟨rfl, rfl, rfl, rfl, rfl⟩
theorem rd35 {full : List S35} {i : Nat} {x : S35} {r : List S35} (h : full.drop i = x :: r) : i < full.length ∧ rd_T35 full (i : Int) = x ∧ full.drop (i + 1) = r := by
  have hlt : i < full.length := by
    rcases Nat.lt_or_ge i full.length with h1 | h1
    · exact h1
    · rw [List.drop_eq_nil_of_le h1] at h; cases h
  rw [List.drop_eq_getElem_cons hlt] at h
  injection h with e1 e2
  refine ⟨hlt, ?_, e2⟩
  unfold rd_T35
  rw [Int.toNat_natCast, List.getD_eq_getElem?_getD, List.getElem?_eq_getElem hlt, Option.getD_some, e1]
theorem rd24 {full : List S24} {i : Nat} {x : S24} {r : List S24} (h : full.drop i = x :: r) : i < full.length ∧ rd_T24 full (i : Int) = x ∧ full.drop (i + 1) = r := by
  have hlt : i < full.length := by
    rcases Nat.lt_or_ge i full.length with h1 | h1
    · exact h1
    · rw [List.drop_eq_nil_of_le h1] at h; cases h
  rw [List.drop_eq_getElem_cons hlt] at h
  injection h with e1 e2
  refine ⟨hlt, ?_, e2⟩
  unfold rd_T24
  rw [Int.toNat_natCast, List.getD_eq_getElem?_getD, List.getElem?_eq_getElem hlt, Option.getD_some, e1]
theorem drop_nil_len {α : Type} {l : List α} {i : Nat} (h : l.drop i = []) : l.length ≤ i := by
  have := congrArg List.length h
  simp at this; omega
theorem w1 (i : Nat) (h : i ≤ 1099511627776) : wrap64 ((i : Int) + 1) = ((i + 1 : Nat) : Int) := by unfold wrap64; omega
/-! #### of -/
def OfT (t : S24) : Prop := szT t ≤ 1048576 → ∀ k : Nat, 2 * szT t ≤ k → sluicewaylaw01_of.f k t.f0 t.f1 t.f2 t.f3 t.f4 = some (t.f0, t.f1, t.f2, t.f3, cvL t.f4)
def OfL (ts : List S24) : Prop := szL ts ≤ 1048576 → ∀ (a b : Int) (s : ByteArray) (g : Int) (full : List S24) (i : Nat) (a' b' : Int) (s' : ByteArray) (g' : Int) (acc : List S35), full.length ≤ 1048576 → acc.length ≤ i → i ≤ full.length → full.drop i = ts → ∀ k : Nat, 1 + 2 * szL ts ≤ k → sluicewaylaw01_of.l0 k (i : Int) a b s g full a' b' s' g' acc = some (a', b', s', g', acc ++ cvL ts)
theorem ofL_nil : OfL [] := by
  intro _ a b s g full i a' b' s' g' acc hf ha hi hd k hk
  have hl := drop_nil_len hd
  obtain ⟨k, rfl⟩ : ∃ m, k = m + 1 := ⟨k - 1, by omega⟩
  rw [sluicewaylaw01_of.l0, if_neg (by omega), cvL, List.append_nil]
theorem ofL_cons (t : S24) (r : List S24) (H1 : OfT t) (H2 : OfL r) : OfL (t :: r) := by
  intro hsz a b s g full i a' b' s' g' acc hf ha hi hd k hk
  have hp := szT_pos t
  rw [szL] at hsz hk
  obtain ⟨hlt, hrd, hd2⟩ := rd24 hd
  obtain ⟨k, rfl⟩ : ∃ m, k = m + 1 := ⟨k - 1, by omega⟩
  obtain ⟨c0, c1, c2, c3, c4⟩ := cv_f t
  have ec : (⟨t.f0, t.f1, t.f2, t.f3, cvL t.f4⟩ : S35) = cvT t := by cases t; rw [cvT]
  rw [sluicewaylaw01_of.l0, if_pos (by omega), if_pos (by omega), hrd, H1 (by omega) k (by omega), Option.bind_some, if_pos (by omega), w1 i (by omega)]
  dsimp only
  rw [ec, H2 (by omega) a b s g full (i + 1) a' b' s' g' (acc ++ [cvT t]) hf (by simp; omega) (by omega) hd2 k (by omega), cvL]
  simp
theorem of_of (k n : Int) (s : ByteArray) (g : Int) (ts : List S24) (IH : OfL ts) : OfT ⟨k, n, s, g, ts⟩ := by
  intro hsz K hK
  rw [szT] at hsz hK
  have hl := szL_len ts
  obtain ⟨K, rfl⟩ : ∃ m, K = m + 1 := ⟨K - 1, by omega⟩
  show sluicewaylaw01_of.f (K + 1) k n s g ts = _
  rw [sluicewaylaw01_of.f]
  have := IH (by omega) k n s g ts 0 k n s g [] (by omega) (by simp) (by omega) rfl K (by omega)
  simpa using this
mutual
theorem ofT_eq : ∀ t : S24, OfT t
  | ⟨k, n, s, g, ts⟩ => of_of k n s g ts (ofL_eq ts)
theorem ofL_eq : ∀ ts : List S24, OfL ts
  | [] => ofL_nil
  | t :: r => ofL_cons t r (ofT_eq t) (ofL_eq r)
end
/-! #### depth -/
mutual
/-- How deep a node is. -/
def dpT : S24 → Nat
  | ⟨_, _, _, _, ts⟩ => 1 + dpL ts
def dpL : List S24 → Nat
  | [] => 0
  | t :: r => max (dpT t) (dpL r)
end
/-! #### shape -/
theorem visible_eq (s : ByteArray) (hs : s.size ≤ 1048576) : ∀ (m j F : Nat), j + m = s.size → sluicewayref01_visible.l0 (F + m + 1) s (j : Int) = some (plainL ((bytesOf s).drop j)) := by
  intro m
  induction m with
  | zero =>
    intro j F h
    rw [List.drop_eq_nil_of_le (by rw [bytesOf_length]; omega), sluicewayref01_visible.l0, if_neg (by omega)]
    rfl
  | succ m ih =>
    intro j F h
    have hj : j < (bytesOf s).length := by rw [bytesOf_length]; omega
    have hd : (bytesOf s).drop j = (bytesOf s).getD j 0 :: (bytesOf s).drop (j + 1) := by
      rw [List.drop_eq_getElem_cons hj]; simp [List.getD_eq_getElem?_getD, hj]
    have hb : bt s (j : Int) = (bytesOf s).getD j 0 := (rd_bytesOf s j).symm
    have hp : plainL ((bytesOf s).drop j) = (plainB ((bytesOf s).getD j 0) && plainL ((bytesOf s).drop (j + 1))) := by rw [hd]; rfl
    rw [show F + (m + 1) + 1 = (F + m + 1) + 1 by omega, sluicewayref01_visible.l0, if_pos (by omega), if_pos (by omega), hb, hp, w1 j (by omega)]
    unfold plainB
    by_cases h1 : (bytesOf s).getD j 0 < 32
    · rw [if_pos h1, decide_eq_false (by omega)]; simp
    · rw [if_neg h1, decide_eq_true (by omega)]
      by_cases h2 : (bytesOf s).getD j 0 > 126
      · rw [if_pos h2, decide_eq_false (by omega)]; simp
      · rw [if_neg h2, decide_eq_true (by omega), ih (j + 1) F (by omega)]; simp
theorem visible_f (s : ByteArray) (hs : s.size ≤ 1048576) (k : Nat) (hk : s.size + 1 ≤ k) : sluicewayref01_visible.f k s = some (plainS s) := by
  have h := visible_eq s hs s.size 0 (k - s.size - 1) (by omega)
  rw [show k - s.size - 1 + s.size + 1 = k by omega, List.drop_zero] at h
  exact h
mutual
/-- right, but for the depth. -/
def shT : S24 → Bool
  | ⟨k, n, s, g, ts⟩ =>
    if k < 1 ∨ 6 < k ∨ g < 0 ∨ 30 < g ∨ (0 < g ∧ k ≠ 6) then false
    else if k = 1 then (s.toList == []) && ts.isEmpty
    else if k = 4 then (s.toList == []) && (ts.isEmpty && (n == 0 || n == 1))
    else if k = 2 then (n == 0) && ts.isEmpty
    else if k = 3 then (n == 0) && (ts.isEmpty && plainS s)
    else (n == 0) && ((s.toList == []) && shL ts)
def shL : List S24 → Bool
  | [] => true
  | t :: r => shT t && shL r
end
mutual
theorem right_iff : ∀ (t : S24) (l : Nat), rightT t l = (decide (dpT t ≤ l) && shT t)
  | ⟨k, n, s, g, ts⟩, l => by
    rw [rightT, shT, dpT]
    by_cases hl : l = 0
    · subst hl
      rw [if_pos (.inl rfl), decide_eq_false (by omega), Bool.false_and]
    by_cases hb : k < 1 ∨ 6 < k ∨ g < 0 ∨ 30 < g ∨ (0 < g ∧ k ≠ 6)
    · rw [if_pos (.inr hb), if_pos hb, Bool.and_false]
    rw [if_neg (by simp only [hl, false_or]; exact hb), if_neg hb]
    have hleaf : ∀ b : Bool, (ts.isEmpty = true → True) → (b = true → ts.isEmpty = true) → b = (decide (1 + dpL ts ≤ l) && b) := by
      intro b _ h
      cases b with
      | false => simp
      | true =>
        have h1 := List.isEmpty_iff.1 (h rfl)
        subst h1
        rw [dpL, decide_eq_true (by omega)]; rfl
    split
    · exact hleaf _ (fun _ => trivial) (by simp)
    split
    · exact hleaf _ (fun _ => trivial) (by simp; intros; assumption)
    split
    · exact hleaf _ (fun _ => trivial) (by simp)
    split
    · exact hleaf _ (fun _ => trivial) (by simp; intros; assumption)
    · rw [right_iffL ts (l - 1)]
      have e : decide (1 + dpL ts ≤ l) = decide (dpL ts ≤ l - 1) := by
        apply decide_eq_decide.2; omega
      rw [e]
      cases (n == 0) <;> cases (s.toList == []) <;> cases decide (dpL ts ≤ l - 1) <;> rfl
theorem right_iffL : ∀ (ts : List S24) (l : Nat), rightL ts l = (decide (dpL ts ≤ l) && shL ts)
  | [], l => by rw [rightL, shL, dpL]; simp
  | t :: r, l => by
    rw [rightL, shL, dpL, right_iff t l, right_iffL r l]
    have e : decide (max (dpT t) (dpL r) ≤ l) = (decide (dpT t ≤ l) && decide (dpL r ≤ l)) := by
      rw [Bool.eq_iff_iff]; simp; omega
    rw [e]
    cases decide (dpT t ≤ l) <;> cases decide (dpL r ≤ l) <;> cases shT t <;> rfl
end
def ShT (t : S24) : Prop := wtT t ≤ 1048576 → ∀ k : Nat, 3 * wtT t ≤ k → sluicewayref01_shape.f k t.f0 t.f1 t.f2 t.f3 (cvL t.f4) = some (shT t)
def ShL (ts : List S24) : Prop := wtL ts ≤ 1048576 → ∀ (a b : Int) (s : ByteArray) (g : Int) (full : List S35) (i : Nat), full.length ≤ 1048576 → i ≤ full.length → full.drop i = cvL ts → ∀ (k : Nat) (v : Bool), 1 + 3 * wtL ts ≤ k → sluicewayref01_shape.l0 k v (i : Int) a b s g full = some (v && shL ts)
theorem wtT_pos (t : S24) : 1 ≤ wtT t := by cases t; rw [wtT]; omega
theorem shL_nil : ShL [] := by
  intro _ a b s g full i hf hi hd k v hk
  rw [cvL] at hd
  have hl := drop_nil_len hd
  obtain ⟨k, rfl⟩ : ∃ m, k = m + 1 := ⟨k - 1, by omega⟩
  rw [sluicewayref01_shape.l0, if_neg (by omega), shL, Bool.and_true]
theorem shL_cons (t : S24) (r : List S24) (H1 : ShT t) (H2 : ShL r) : ShL (t :: r) := by
  intro hsz a b s g full i hf hi hd k v hk
  have hp := wtT_pos t
  rw [wtL] at hsz hk
  rw [cvL] at hd
  obtain ⟨hlt, hrd, hd2⟩ := rd35 hd
  obtain ⟨k, rfl⟩ : ∃ m, k = m + 1 := ⟨k - 1, by omega⟩
  obtain ⟨c0, c1, c2, c3, c4⟩ := cv_f t
  rw [sluicewayref01_shape.l0, if_pos (by omega)]
  cases v with
  | false => rw [if_neg (by simp)]; simp
  | true =>
    rw [if_pos rfl, if_pos (by omega), hrd, c0, c1, c2, c3, c4, H1 (by omega) k (by omega), Option.bind_some, w1 i (by omega), H2 (by omega) a b s g full (i + 1) hf (by omega) hd2 k _ (by omega), shL]
    simp
theorem sh_of (k n : Int) (s : ByteArray) (g : Int) (ts : List S24) (IH : ShL ts) : ShT ⟨k, n, s, g, ts⟩ := by
  intro hsz K hK
  rw [wtT] at hsz hK
  have hl := szL_len ts
  have hl2 := szL_wt ts
  obtain ⟨K, rfl⟩ : ∃ m, K = m + 2 := ⟨K - 2, by omega⟩
  show sluicewayref01_shape.f (K + 1 + 1) k n s g (cvL ts) = _
  have hj : ∀ v : Bool, sluicewayref01_shape.j0 (K + 1) v k n s g (cvL ts) = some (v && shL ts) := by
    intro v
    rw [sluicewayref01_shape.j0]
    exact IH (by omega) k n s g (cvL ts) 0 (by rw [cvL_len]; omega) (by omega) rfl K v (by omega)
  rw [sluicewayref01_shape.f, visible_f s (by omega) (K + 1) (by omega), Option.bind_some, shT]
  simp only [hj, Bool.false_and, Bool.true_and]
  have hE : (((cvL ts).length : Int) == 0) = ts.isEmpty := by
    rw [cvL_len]
    cases ts with
    | nil => rfl
    | cons x r => simp; omega
  have hE2 : ((cvL ts).length : Int) = 0 ↔ ts.isEmpty = true := by rw [← hE]; simp
  have hS : ts.isEmpty = true → shL ts = true := by intro h; rw [List.isEmpty_iff.1 h, shL]
  have hEm : ∀ b : Bool, (ts.isEmpty && b && shL ts) = (ts.isEmpty && b) := by
    intro b
    cases h : ts.isEmpty with
    | false => rfl
    | true => rw [hS h, Bool.and_true]
  rw [hE]
  by_cases k1 : k = 1
  · subst k1
    rw [if_pos rfl]
    by_cases hs : s.toList = []
    · rw [if_pos hs]
      by_cases hg : g = 0
      · subst hg
        rw [if_pos rfl, if_neg (by omega), if_pos rfl, hs]
        have := hEm true
        simpa using this
      · rw [if_neg hg, if_pos (by omega)]
    · rw [if_neg hs]
      have : (s.toList == []) = false := by simpa using hs
      rw [this]
      split <;> simp
  rw [if_neg k1]
  by_cases k2 : k = 2
  · subst k2
    rw [if_pos rfl]
    by_cases hn : n = 0
    · subst hn
      rw [if_pos rfl]
      by_cases hg : g = 0
      · subst hg
        rw [if_pos rfl, if_neg (by omega), if_neg (by omega), if_neg (by omega), if_pos rfl]
        have := hEm true
        simpa using this
      · rw [if_neg hg, if_pos (by omega)]
    · rw [if_neg hn]
      have : (n == 0) = false := by simpa using hn
      rw [this]
      split <;> simp
  rw [if_neg k2]
  by_cases k3 : k = 3
  · subst k3
    rw [if_pos rfl]
    by_cases hn : n = 0
    · subst hn
      rw [if_pos rfl]
      by_cases hg : g = 0
      · subst hg
        rw [if_pos rfl]
        by_cases he : ts.isEmpty = true
        · rw [if_pos (hE2.2 he), if_neg (by omega), if_neg (by omega), if_neg (by omega), if_neg (by omega), if_pos rfl, he, hS he]; simp
        · rw [if_neg (fun h => he (hE2.1 h)), if_neg (by omega), if_neg (by omega), if_neg (by omega), if_neg (by omega), if_pos rfl]
          have : ts.isEmpty = false := by simpa using he
          rw [this]; simp
      · rw [if_neg hg, if_pos (by omega)]
    · rw [if_neg hn]
      have : (n == 0) = false := by simpa using hn
      rw [this]
      split <;> simp
  rw [if_neg k3]
  by_cases k4 : k = 4
  · subst k4
    rw [if_pos rfl]
    by_cases hs : s.toList = []
    · rw [if_pos hs]
      by_cases hg : g = 0
      · subst hg
        rw [if_pos rfl]
        by_cases he : ts.isEmpty = true
        · rw [if_pos (hE2.2 he), he, hS he, hs]
          by_cases hn : n = 0
          · subst hn; rw [if_pos rfl, if_neg (by omega), if_neg (by omega), if_pos rfl]; rfl
          · rw [if_neg hn, if_neg (by omega), if_neg (by omega), if_pos rfl]
            have : (n == 0) = false := by simpa using hn
            rw [this]; simp
        · rw [if_neg (fun h => he (hE2.1 h)), if_neg (by omega), if_neg (by omega), if_pos rfl, hs]
          have : ts.isEmpty = false := by simpa using he
          rw [this]; simp
      · rw [if_neg hg, if_pos (by omega)]
    · rw [if_neg hs]
      have : (s.toList == []) = false := by simpa using hs
      rw [this]
      split <;> simp
  rw [if_neg k4]
  by_cases k5 : k = 5
  · subst k5
    rw [if_pos rfl]
    by_cases hs : s.toList = []
    · rw [if_pos hs]
      by_cases hg : g = 0
      · subst hg
        rw [if_pos rfl, if_neg (by omega), if_neg (by omega), if_neg (by omega), if_neg (by omega), if_neg (by omega), hs]
        simp
      · rw [if_neg hg, if_pos (by omega)]
    · rw [if_neg hs]
      have : (s.toList == []) = false := by simpa using hs
      rw [this]
      split <;> simp
  rw [if_neg k5]
  by_cases k6 : k = 6
  · subst k6
    rw [if_pos rfl]
    by_cases hs : s.toList = []
    · rw [if_pos hs]
      by_cases hg : g ≥ 0
      · rw [if_pos hg]
        by_cases hg2 : g ≤ 30
        · rw [if_pos hg2, if_neg (by omega), if_neg (by omega), if_neg (by omega), if_neg (by omega), if_neg (by omega), hs]
          simp
        · rw [if_neg hg2, if_pos (by omega)]
      · rw [if_neg hg, if_pos (by omega)]
    · rw [if_neg hs]
      have : (s.toList == []) = false := by simpa using hs
      rw [this]
      split <;> simp
  rw [if_neg k6, if_pos (by omega)]
mutual
theorem sh_eq : ∀ t : S24, ShT t
  | ⟨k, n, s, g, ts⟩ => sh_of k n s g ts (shL_eq ts)
theorem shL_eq : ∀ ts : List S24, ShL ts
  | [] => shL_nil
  | t :: r => shL_cons t r (sh_eq t) (shL_eq r)
end
end Go.Proofs.Ytpphoifjhhidfaa.Der

namespace Go.Proofs.Ytpphoifjhhidfaa.Der
set_option linter.unusedVariables false
set_option linter.unusedSimpArgs false
open Go.RowKit Go.Proofs.Ytpphoifjhhidfaa.GDerBytes
open Go.Proofs.YtpphoifjhhidfaaW.PrintWords
open Go.Proofs.YtpphoifjhhidfaaW.PrintLast
theorem strOf_app (a b : List Int) : strOfNums (a ++ b) = strOfNums a ++ strOfNums b := by
  have h : (strOfNums (a ++ b)).data.toList = (strOfNums a ++ strOfNums b).data.toList := by
    rw [ByteArray.data_append, Array.toList_append, strOfNums_data, strOfNums_data, strOfNums_data, List.map_append]
  generalize strOfNums (a ++ b) = x at *
  generalize strOfNums a ++ strOfNums b = y at *
  obtain ⟨d⟩ := x
  obtain ⟨d'⟩ := y
  obtain ⟨l⟩ := d
  obtain ⟨l'⟩ := d'
  simp at h
  rw [h]
theorem strOf_size (a : List Int) : (strOfNums a).size = a.length := strOfNums_size a
theorem and255 (a : Int) : Go.bits .and .i64 a 255 = a % 256 := by
  show IntKind.i64.wrap (((BitVec.ofInt 64 a &&& BitVec.ofInt 64 255).toNat : Nat) : Int) = _
  rw [BitVec.toNat_and, show (BitVec.ofInt 64 255).toNat = 2 ^ 8 - 1 from by decide, Nat.and_two_pow_sub_one_eq_mod, BitVec.toNat_ofInt, IntKind.wrap_i64]
  rw [show ((2 ^ 64 : Nat) : Int) = 18446744073709551616 by decide]
  omega
theorem refNumber : ∀ (j : Nat) (x : Int) (k : Nat), j ≤ 7 → j + 1 ≤ k → -(128 * 256 ^ j) ≤ x → x < 128 * 256 ^ j → sluicewayref01_Number.f k x = some (strOfNums (numN j x)) := by
  intro j
  induction j with
  | zero =>
    intro x k _ hk h1 h2
    obtain ⟨k, rfl⟩ : ∃ m, k = m + 1 := ⟨k - 1, by omega⟩
    simp at h1 h2
    rw [sluicewayref01_Number.f, Option.bind_some, if_pos (by omega), if_pos (by omega), and255, numN, show x % 256 % 256 = x % 256 by omega]
  | succ j ih =>
    intro x k hj hk h1 h2
    obtain ⟨k, rfl⟩ : ∃ m, k = m + 1 := ⟨k - 1, by omega⟩
    have hp : (256 : Int) ^ (j + 1) = 256 ^ j * 256 := Int.pow_succ ..
    have hq : (256 : Int) ^ j ≤ 256 ^ 6 := pow6 j (by omega)
    rw [show (256 : Int) ^ 6 = 281474976710656 by decide] at hq
    rw [hp] at h1 h2
    have hd : wrap64 (Int.tdiv (wrap64 (x - x % 256)) 256) = x / 256 := by
      have e1 : wrap64 (x - x % 256) = x - x % 256 := by unfold wrap64; omega
      have e2 : x - x % 256 = 256 * (x / 256) := by omega
      rw [e1, e2, Int.mul_tdiv_cancel_left _ (by decide)]
      unfold wrap64; omega
    have hi := ih (x / 256) k (by omega) (by omega) (by omega) (by omega)
    have hl := (numN_len j (x / 256)).2
    rw [sluicewayref01_Number.f, Option.bind_some, and255, hd, hi]
    simp only [Option.bind_some]
    rw [numN, show x % 256 % 256 = x % 256 by omega]
    have hfit : (strOfNums (numN j (x / 256))).size + (strOfNums [x % 256]).size ≤ 9223372036854775807 := by rw [strOf_size, strOf_size]; simp; omega
    rw [if_pos hfit, ← strOf_app]
    by_cases hx : -128 ≤ x ∧ x ≤ 127
    · rw [if_pos (by omega), if_pos hx.2, if_pos hx]
    · rw [if_neg hx]
      by_cases h3 : x ≥ -128
      · rw [if_pos h3, if_neg (by omega)]
      · rw [if_neg h3]
theorem refPlaces : ∀ (j : Nat) (x : Int) (k : Nat), j ≤ 7 → j + 1 ≤ k → 0 ≤ x → x < 256 ^ j → sluicewayref01_places.f k x = some (strOfNums (digN j x)) := by
  intro j
  induction j with
  | zero =>
    intro x k _ hk h1 h2
    obtain ⟨k, rfl⟩ : ∃ m, k = m + 1 := ⟨k - 1, by omega⟩
    simp at h2
    rw [sluicewayref01_places.f, if_pos (by omega), digN]
    rfl
  | succ j ih =>
    intro x k hj hk h1 h2
    obtain ⟨k, rfl⟩ : ∃ m, k = m + 1 := ⟨k - 1, by omega⟩
    have hp : (256 : Int) ^ (j + 1) = 256 ^ j * 256 := Int.pow_succ ..
    have hq : (256 : Int) ^ j ≤ 256 ^ 6 := pow6 j (by omega)
    rw [show (256 : Int) ^ 6 = 281474976710656 by decide] at hq
    rw [hp] at h2
    rw [sluicewayref01_places.f, digN]
    by_cases h0 : x = 0
    · subst h0
      rw [if_pos rfl, if_neg (by omega)]; rfl
    · have e1 : Int.tdiv x 256 = x / 256 := Int.tdiv_eq_ediv_of_nonneg h1
      have e2 : Int.tmod x 256 = x % 256 := Int.tmod_eq_emod_of_nonneg h1
      have e3 : wrap64 (x / 256) = x / 256 := by unfold wrap64; omega
      have hl := digN_len j (x / 256)
      rw [if_neg h0, if_pos (by omega), e1, e2, e3, ih (x / 256) k (by omega) (by omega) (by omega) (by omega), Option.bind_some, Option.bind_some, show x % 256 % 256 = x % 256 by omega]
      rw [if_pos (by rw [strOf_size, strOf_size]; simp; omega), ← strOf_app]
theorem refLength (n k : Nat) (hn : n < 16777216) (hk : 8 ≤ k) : sluicewayref01_Length.f k (n : Int) = some (strOfNums (lenL n)) := by
  unfold sluicewayref01_Length.f lenL
  by_cases h : n < 128
  · rw [if_pos (by omega), if_pos h, show (n : Int) % 256 = n by omega]
  · have hl := digN_len2 3 7 (n : Int) (by simp; omega)
    rw [if_neg (by omega), if_neg h, refPlaces 7 (n : Int) k (by omega) (by omega) (by omega) (by simp; omega), Option.bind_some, Option.bind_some]
    simp only [strOf_size]
    rw [show wrap64 (128 + ((digN 7 (n : Int)).length : Int)) % 256 = 128 + ((digN 7 (n : Int)).length : Int) by unfold wrap64; omega]
    rw [if_pos (by simp; omega), ← strOf_app]; rfl
theorem wrL_len : ∀ (ts : List S24) (acc out : List Int), wrL ts acc = some out → acc.length ≤ out.length
  | [], acc, out, h => by rw [wrL] at h; obtain rfl := Option.some.inj h; omega
  | t :: r, acc, out, h => by
    rw [wrL] at h
    obtain ⟨x, _, h⟩ := Option.bind_eq_some_iff.mp h
    split at h
    · have := wrL_len r _ out h; simp at this; omega
    · cases h
def WfT (t : S24) : Prop := wtT t ≤ 1048576 → ∀ (l : Nat) (b : List Int), rightT t l = true → rngT t → wrO t = some b → b.length < 16777216 → ∀ k : Nat, 3 * wtT t + 20 ≤ k → sluicewayref01_Written.f k t.f0 t.f1 t.f2 t.f3 (cvL t.f4) = some (strOfNums b)
def WfL (ts : List S24) : Prop := wtL ts ≤ 1048576 → ∀ (l : Nat) (acc out : List Int), rightL ts l = true → rngL ts → wrL ts acc = some out → out.length < 16777216 → ∀ (x a b : Int) (s : ByteArray) (g : Int) (full : List S35) (i : Nat), 0 ≤ x ∧ x ≤ 255 → full.length ≤ 1048576 → i ≤ full.length → full.drop i = cvL ts → ∀ (k : Nat), 21 + 3 * wtL ts ≤ k → sluicewayref01_Written.l0 k (strOfNums acc) x (i : Int) a b s g full = some (strOfNums (x :: (lenL out.length ++ out)))
theorem wfL_nil : WfL [] := by
  intro _ l acc out hr hg h ho x a b s g full i hx hf hi hd k hk
  rw [wrL] at h
  obtain rfl := Option.some.inj h
  rw [cvL] at hd
  have hl := drop_nil_len hd
  have h4 := lenL_four acc.length ho
  obtain ⟨k, rfl⟩ : ∃ m, k = m + 1 := ⟨k - 1, by omega⟩
  rw [sluicewayref01_Written.l0, if_neg (by omega), Option.bind_some, strOf_size, refLength _ k ho (by omega), Option.bind_some, show x % 256 = x by omega]
  rw [if_pos (by rw [strOf_size, strOf_size]; simp; omega), if_pos (by rw [← strOf_app, strOf_size]; simp; omega), ← strOf_app, ← strOf_app]
  simp
theorem wfL_cons (t : S24) (r : List S24) (H1 : WfT t) (H2 : WfL r) : WfL (t :: r) := by
  intro hw l acc out hr hg h ho x a b s g full i hx hf hi hd k hk
  rw [rightL, Bool.and_eq_true] at hr
  rw [rngL] at hg
  rw [wtL] at hw hk
  rw [wrL] at h
  obtain ⟨y, hy, h⟩ := Option.bind_eq_some_iff.mp h
  split at h
  · have hlen := wrL_len r _ out h
    simp at hlen
    rw [cvL] at hd
    have hp := wtT_pos t
    obtain ⟨hlt, hrd, hd2⟩ := rd35 hd
    obtain ⟨k, rfl⟩ : ∃ m, k = m + 1 := ⟨k - 1, by omega⟩
    obtain ⟨c0, c1, c2, c3, c4⟩ := cv_f t
    rw [sluicewayref01_Written.l0, if_pos (by omega), if_pos (by omega), hrd, c0, c1, c2, c3, c4, H1 (by omega) l y hr.1 hg.1 hy (by omega) k (by omega), Option.bind_some]
    rw [if_pos (by rw [strOf_size, strOf_size]; omega), ← strOf_app, w1 i (by omega)]
    exact H2 (by omega) l _ out hr.2 hg.2 h ho x a b s g full (i + 1) hx hf (by omega) hd2 k (by omega)
  · cases h
theorem wf_of (k n : Int) (s : ByteArray) (g : Int) (ts : List S24) (IH : WfL ts) : WfT ⟨k, n, s, g, ts⟩ := by
  intro hw l b hr hg h hb K hK
  rw [wtT] at hw hK
  rw [rightT] at hr
  rw [rngT] at hg
  have hl := szL_len ts
  have hl2 := szL_wt ts
  have hnil : ts.isEmpty = true → ts = [] := List.isEmpty_iff.1
  rw [wrO] at h
  obtain ⟨c, hc, h⟩ := Option.bind_eq_some_iff.mp h
  obtain ⟨hk, rfl⟩ := head_inv h
  have hcl : c.length < 16777216 := by simp at hb; omega
  obtain ⟨K, rfl⟩ : ∃ m, K = m + 2 := ⟨K - 2, by omega⟩
  show sluicewayref01_Written.f (K + 1 + 1) k n s g (cvL ts) = _
  have hj : ∀ (x : Int) (acc : List Int), 0 ≤ x ∧ x ≤ 255 → rightL ts (l - 1) = true → wrL ts acc = some c → sluicewayref01_Written.j0 (K + 1) (strOfNums acc) x k n s g (cvL ts) = some (strOfNums (x :: (lenL c.length ++ c))) := by
    intro x acc hx hr' hwr
    rw [sluicewayref01_Written.j0]
    exact IH (by omega) (l - 1) acc c hr' hg.2 hwr hcl x k n s g (cvL ts) 0 hx (by rw [cvL_len]; omega) (by omega) rfl K (by omega)
  have hj0 : ts = [] → ∀ (x : Int), 0 ≤ x ∧ x ≤ 255 → sluicewayref01_Written.j0 (K + 1) (strOfNums c) x k n s g (cvL ts) = some (strOfNums (x :: (lenL c.length ++ c))) := by
    intro hts x hx
    refine hj x c hx ?_ ?_
    · rw [hts, rightL]
    · rw [hts, wrL]
  rw [sluicewayref01_Written.f]
  split at hr
  · cases hr
  rename_i hbad
  simp only [not_or, not_and] at hbad
  rw [contF] at hc
  split at hr
  · rename_i h1
    subst h1
    have hg0 : g = 0 := by omega
    subst hg0
    simp only [Bool.and_eq_true] at hr
    rw [if_pos rfl, number_eq n hg.1.1 hg.1.2] at hc
    obtain rfl := Option.some.inj hc
    rw [if_pos rfl, refNumber 7 n (K + 1) (by omega) (by omega) (by simp; omega) (by simp; omega), Option.bind_some, hj0 (hnil hr.2) 2 (by omega)]
    rw [show (identL 1 + 0 % 256) % 256 = 2 by decide]
  rename_i h1
  rw [if_neg h1] at hc
  rw [if_neg h1]
  split at hr
  · rename_i h4
    subst h4
    have hg0 : g = 0 := by omega
    subst hg0
    simp only [Bool.and_eq_true, Bool.or_eq_true, beq_iff_eq] at hr
    rw [if_pos rfl] at hc
    obtain rfl := Option.some.inj hc
    rw [if_neg (by omega), if_neg (by omega), if_pos rfl, show (identL 4 + 0 % 256) % 256 = 1 by decide]
    obtain ⟨_, h6, h7⟩ := hr
    rcases h7 with rfl | rfl
    · rw [if_neg (by omega)]
      have := hj0 (hnil h6) 1 (by omega)
      rw [show wrap64 (-0) % 256 = 0 by unfold wrap64; decide] at this ⊢
      exact this
    · rw [if_pos rfl]
      have := hj0 (hnil h6) 1 (by omega)
      rw [show wrap64 (-1) % 256 = 255 by unfold wrap64; decide] at this ⊢
      exact this
  rename_i h4
  rw [if_neg h4] at hc
  split at hr
  · rename_i h2
    subst h2
    have hg0 : g = 0 := by omega
    subst hg0
    simp only [Bool.and_eq_true] at hr
    rw [if_pos (.inl rfl)] at hc
    split at hc
    · obtain rfl := Option.some.inj hc
      have := hj0 (hnil hr.2) 4 (by omega)
      rw [str_bytes] at this
      rw [if_pos rfl, this, show (identL 2 + 0 % 256) % 256 = 4 by decide]
    · cases hc
  rename_i h2
  rw [if_neg h2]
  split at hr
  · rename_i h3
    subst h3
    have hg0 : g = 0 := by omega
    subst hg0
    simp only [Bool.and_eq_true] at hr
    rw [if_pos (.inr rfl)] at hc
    split at hc
    · obtain rfl := Option.some.inj hc
      have := hj0 (hnil hr.2.1) 12 (by omega)
      rw [str_bytes] at this
      rw [if_pos rfl, this, show (identL 3 + 0 % 256) % 256 = 12 by decide]
    · cases hc
  rename_i h3
  rw [if_neg (by simp [h2, h3])] at hc
  rw [if_neg h3, if_neg h4]
  simp only [Bool.and_eq_true] at hr
  have h56 : k = 5 ∨ k = 6 := by omega
  rcases h56 with rfl | rfl
  · have hg0 : g = 0 := by omega
    subst hg0
    have := hj 48 [] (by omega) hr.2.2 hc
    rw [if_pos rfl, show (identL 5 + 0 % 256) % 256 = 48 by decide]
    exact this
  · have := hj (160 + g) [] (by omega) hr.2.2 hc
    rw [if_neg (by omega), if_pos rfl, show wrap64 (160 + g) = 160 + g by unfold wrap64; omega, identL_6, show (160 + g % 256) % 256 = 160 + g by omega]
    exact this
mutual
theorem wf_eq : ∀ t : S24, WfT t
  | ⟨k, n, s, g, ts⟩ => wf_of k n s g ts (wfL_eq ts)
theorem wfL_eq : ∀ ts : List S24, WfL ts
  | [] => wfL_nil
  | t :: r => wfL_cons t r (wf_eq t) (wfL_eq r)
end
end Go.Proofs.Ytpphoifjhhidfaa.Der
