/- The plain law DerReads: bytes are a node's, or none's. -/
import Derived.Test.YtpphoifjhhidfaaGDerReadsx4
import Derived.Test.YtpphoifjhhidfaaReadsA
namespace Go.Proofs.Ytpphoifjhhidfaa.Pure
set_option linter.unusedVariables false
set_option linter.unusedSimpArgs false
open Go.RowKit Go.Proofs.Ytpphoifjhhidfaa.Der Go.Proofs.Ytpphoifjhhidfaa.Reads Go.Proofs.Ytpphoifjhhidfaa.GDerReads
open Go.Proofs.Ytpphoifjhhidfaa.GDerBytes (S35 rd_T35 z35)
open Go.Proofs.YtpphoifjhhidfaaW.PrintWords Go.Proofs.YtpphoifjhhidfaaW.PrintLast
def SmT (t : S24) : Prop := szT t ≤ 1048576 → ∀ k : Nat, 3 * szT t ≤ k → sluicewayref01_Same.f k t.f0 t.f1 t.f2 t.f3 (cvL t.f4) t.f0 t.f1 t.f2 t.f3 (cvL t.f4) = some true
def SmL (ts : List S24) : Prop := szL ts ≤ 1048576 → ∀ (a b : Int) (s : ByteArray) (g : Int) (full : List S35) (i : Nat), full.length ≤ 1048576 → i ≤ full.length → full.drop i = cvL ts → ∀ k : Nat, 1 + 3 * szL ts ≤ k → sluicewayref01_Same.l0 k (i : Int) a b s g full a b s g full = some true
theorem smL_nil : SmL [] := by
  intro _ a b s g full i hf hi hd k hk
  rw [cvL] at hd
  have hl := drop_nil_len hd
  obtain ⟨k, rfl⟩ : ∃ m, k = m + 1 := ⟨k - 1, by omega⟩
  rw [sluicewayref01_Same.l0, if_neg (by omega)]
theorem smL_cons (t : S24) (r : List S24) (H1 : SmT t) (H2 : SmL r) : SmL (t :: r) := by
  intro hsz a b s g full i hf hi hd k hk
  have hp := szT_pos t
  rw [szL] at hsz hk
  rw [cvL] at hd
  obtain ⟨hlt, hrd, hd2⟩ := rd35 hd
  obtain ⟨k, rfl⟩ : ∃ m, k = m + 1 := ⟨k - 1, by omega⟩
  obtain ⟨c0, c1, c2, c3, c4⟩ := cv_f t
  rw [sluicewayref01_Same.l0, if_pos (by omega), if_pos (by omega), if_pos (by omega), hrd, c0, c1, c2, c3, c4, H1 (by omega) k (by omega), Option.bind_some, if_pos rfl, w1 i (by omega)]
  exact H2 (by omega) a b s g full (i + 1) hf (by omega) hd2 k (by omega)
theorem sm_of (k n : Int) (s : ByteArray) (g : Int) (ts : List S24) (IH : SmL ts) : SmT ⟨k, n, s, g, ts⟩ := by
  intro hsz K hK
  rw [szT] at hsz hK
  have hl := szL_len ts
  obtain ⟨K, rfl⟩ : ∃ m, K = m + 2 := ⟨K - 2, by omega⟩
  show sluicewayref01_Same.f (K + 1 + 1) k n s g (cvL ts) k n s g (cvL ts) = _
  rw [sluicewayref01_Same.f, if_pos rfl, if_pos rfl, if_pos rfl, if_pos rfl, sluicewayref01_Same.j0, if_neg (by simp)]
  exact IH (by omega) k n s g (cvL ts) 0 (by rw [cvL_len]; omega) (by omega) rfl K (by omega)
mutual
theorem sm_eq : ∀ t : S24, SmT t
  | ⟨k, n, s, g, ts⟩ => sm_of k n s g ts (smL_eq ts)
theorem smL_eq : ∀ ts : List S24, SmL ts
  | [] => smL_nil
  | t :: r => smL_cons t r (sm_eq t) (smL_eq r)
end
theorem of_both (b : List Int) (hb : Bs b) (hl : b.length ≤ 3000) (k : Nat) (hk : 200000 ≤ k) : ∃ (t : S24) (e : Int), der_Of.f b = some (t.f0, t.f1, t.f2, t.f3, t.f4, e) ∧ sluicewayref01_Of.f k (strOfNums b) = some (t.f0, t.f1, t.f2, t.f3, cvL t.f4, e) ∧ wtT t ≤ 3000 := by
  have hsz : ((strOfNums b).size : Int) = b.length := by rw [strOf_size]
  have hz : wtT ⟨0, 0, e0, 0, []⟩ ≤ 3000 := by rw [wtT, wtL]; simp [e0_size]
  have hz35 : cvL (⟨0, 0, e0, 0, []⟩ : S24).f4 = [] := by show cvL [] = []; rw [cvL]
  have hof : ∀ r, readO 20 b = some r → der_Of.f b = (match r with | none => some (0, 0, e0, 0, [], 2) | some (t, rest) => if rest.length = 0 then some (t.f0, t.f1, t.f2, t.f3, t.f4, 0) else some (0, 0, e0, 0, [], 2)) := by
    intro r hr
    show ofF b = _
    unfold ofF
    rw [if_pos ⟨hb, by omega⟩, if_neg (by omega), hr, Option.bind_some]
    cases r with
    | none => rfl
    | some p => rfl
  have hfu : FU 20 ≤ k := by unfold FU; omega
  unfold sluicewayref01_Of.f
  rw [if_neg (by omega)]
  rcases read_all 20 (by omega) b hb hl k hfu with ⟨t, m, h1, h2, h3⟩ | ⟨h1, h2⟩
  · rw [show (20 : Int) = ((20 : Nat) : Int) from rfl, h1, show (some (ok7 t m) : Option R7) = some (t.f0, t.f1, t.f2, t.f3, cvL t.f4, (m : Int), true) from rfl, Option.bind_some]
    dsimp only
    rw [if_pos rfl, hsz]
    have hm := h2.1
    have hrd := (wr_rd t 20 (b.take m) (b.drop m) h2.2.1 h2.2.2.1 h2.2.2.2 (by rw [List.length_take]; omega)).1
    rw [List.take_append_drop] at hrd
    have ho := hof _ hrd
    dsimp only at ho
    by_cases hme : m = b.length
    · rw [if_pos (by rw [List.length_drop]; omega)] at ho
      rw [if_pos (by omega)]
      exact ⟨t, 0, ho, rfl, by omega⟩
    · rw [if_neg (by rw [List.length_drop]; omega)] at ho
      rw [if_neg (by omega)]
      exact ⟨⟨0, 0, e0, 0, []⟩, 2, ho, by rw [hz35], hz⟩
  · rw [show (20 : Int) = ((20 : Nat) : Int) from rfl, h1, show (some zero7 : Option R7) = some (0, 0, ⟨#[]⟩, 0, [], 0, false) from rfl, Option.bind_some]
    dsimp only
    rw [if_neg (by simp)]
    obtain ⟨r, hr⟩ := read_total 20 b hb (by omega)
    have ho := hof r hr
    cases r with
    | none => exact ⟨⟨0, 0, e0, 0, []⟩, 2, ho, by rw [hz35], hz⟩
    | some p =>
      obtain ⟨t, rest⟩ := p
      exfalso
      obtain ⟨b', h3, g1, g2, g3, g4⟩ := read_good 20 b hb (by omega) t rest hr
      have hg := read_rng 20 b hb (by omega) t rest hr
      refine h2 t b'.length ⟨by rw [h3]; simp, g1, hg, ?_⟩
      rw [h3, List.take_left]
      exact g2
theorem reads_loop (v e : Int) (x9 : Bool) (t : S24) (hw : wtT t ≤ 3000) (hv : v = e) : ∀ (m : Nat) (x4 : List Int) (i k : Nat), i + m = x4.length → x4.length ≤ 3000 → 20000 + m ≤ k → sluicewaylaw01_DerReads.l0 k true x4 v e x9 (i : Int) t.f0 t.f1 t.f2 t.f3 t.f4 t.f0 t.f1 t.f2 t.f3 (cvL t.f4) = some x9 := by
  intro m
  induction m with
  | zero =>
    intro x4 i k h hl hk
    have hsz := szT_wt t
    obtain ⟨k, rfl⟩ : ∃ m, k = m + 1 := ⟨k - 1, by omega⟩
    have h1 : sluicewaylaw01_of.f t.f0 t.f1 t.f2 t.f3 t.f4 = some (t.f0, t.f1, t.f2, t.f3, cvL t.f4) := ofT_eq t (by omega) 8388608 (by omega)
    rw [sluicewaylaw01_DerReads.l0, if_neg (by omega), if_pos rfl, if_pos hv, h1, Option.bind_some]
    dsimp only
    rw [sm_eq t (by omega) k (by omega), Option.bind_some, if_pos rfl]
  | succ m ih =>
    intro x4 i k h hl hk
    obtain ⟨k, rfl⟩ : ∃ m, k = m + 1 := ⟨k - 1, by omega⟩
    rw [sluicewaylaw01_DerReads.l0, if_pos (by omega), if_pos (by omega), w1 i (by omega)]
    exact ih _ (i + 1) k (by simp; omega) (by simp; omega) (by omega)
theorem DerReads : sluicewaylaw01_DerReads.Pure := by
  intro l0 _ _ hwf
  refine ⟨400000, ?_⟩
  have hs : sluicewaylaw01_shown.f = some true := rfl
  have hb0 := byte_of_wf hwf
  obtain ⟨j, hj, hj2, hj3⟩ : ∃ j : Nat, mn (l0.length : Int) 3000 = (j : Int) ∧ j ≤ l0.length ∧ j ≤ 3000 := by
    refine ⟨(mn (l0.length : Int) 3000).toNat, ?_, ?_, ?_⟩ <;> (unfold mn; split <;> omega)
  unfold sluicewaylaw01_DerReads.f
  rw [hs, hj]
  simp only [Option.bind_some]
  rw [if_pos (by omega), if_pos (by omega), Int.toNat_natCast]
  obtain ⟨b, hb⟩ : ∃ b, l0.take j = b := ⟨_, rfl⟩
  rw [hb]
  have hbb : Bs b := by intro x hx; rw [← hb] at hx; exact hb0 x (List.mem_of_mem_take hx)
  have hbl : b.length ≤ 3000 := by rw [← hb, List.length_take]; omega
  rw [if_pos (by simp; omega), List.nil_append]
  obtain ⟨t, e, h1, h2, h3⟩ := of_both b hbb hbl 400000 (by omega)
  rw [h1, Option.bind_some, h2, Option.bind_some]
  dsimp only
  have h4 := reads_loop e e ((strOfNums b).toList == (strOfNums b).toList) t h3 rfl b.length b 0 400000 (by omega) hbl (by omega)
  rw [show ((0 : Nat) : Int) = 0 from rfl] at h4
  rw [h4]
  simp
end Go.Proofs.Ytpphoifjhhidfaa.Pure
