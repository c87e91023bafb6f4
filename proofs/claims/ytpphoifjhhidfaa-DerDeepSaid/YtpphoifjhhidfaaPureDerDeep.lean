/- The plain law DerDeep. -/
import Derived.Test.YtpphoifjhhidfaaGDerDeepx2
import Derived.Test.YtpphoifjhhidfaaTh4
namespace Go.Proofs.Ytpphoifjhhidfaa.Pure
set_option linter.unusedVariables false
set_option linter.unusedSimpArgs false
open Go.RowKit Go.Proofs.Ytpphoifjhhidfaa.Der Go.Proofs.Ytpphoifjhhidfaa.GDerDeep Go.Proofs.YtpphoifjhhidfaaW.PrintWords Go.Proofs.YtpphoifjhhidfaaW.PrintLast
-- needs Th4
theorem and_mask (a : Int) (m : Nat) (hm : m < 9223372036854775808) : 0 ≤ Go.bits .and .i64 a (m : Int) ∧ Go.bits .and .i64 a (m : Int) ≤ m := by
  show 0 ≤ IntKind.i64.wrap (((BitVec.ofInt 64 a &&& BitVec.ofInt 64 (m : Int)).toNat : Nat) : Int) ∧ IntKind.i64.wrap (((BitVec.ofInt 64 a &&& BitVec.ofInt 64 (m : Int)).toNat : Nat) : Int) ≤ m
  rw [BitVec.toNat_and, BitVec.ofInt_natCast, BitVec.toNat_ofNat, Nat.mod_eq_of_lt (by omega)]
  have h : (BitVec.ofInt 64 a).toNat &&& m ≤ m := Nat.and_le_right
  generalize (BitVec.ofInt 64 a).toNat &&& m = z at *
  rw [IntKind.wrap_i64]
  omega
/-- i sequences or tags around a number. -/
def DInv (i : Nat) (x : S24) (b : List Int) : Prop := (∀ l, rightT x l = decide (i < l)) ∧ wrO x = some b ∧ szT x = i + 1 ∧ txB x = true ∧ rngT x ∧ b.length ≤ 3 + 3 * i ∧ Bs b ∧ 0 < b.length ∧ ∀ l, l ≤ i → readO l b = some none
theorem lenL_small (n : Nat) (h : n < 256) : lenL n = if n < 128 then [(n : Int)] else [129, (n : Int)] := by
  unfold lenL
  by_cases h1 : n < 128
  · rw [if_pos h1, if_pos h1]
  · rw [if_neg h1, if_neg h1]
    have : digN 7 (n : Int) = [(n : Int)] := by
      rw [digN, if_pos (by omega), digN, if_neg (by omega)]
      simp; omega
    rw [this]; rfl
theorem dinv_step (k g : Int) (i : Nat) (x : S24) (b : List Int) (hi : i ≤ 60) (h : DInv i x b) (hk : (k = 5 ∧ g = 0) ∨ (k = 6 ∧ 0 ≤ g ∧ g ≤ 15)) (y : Int) (hy : y = if k = 5 then 48 else 160 + g) : DInv (i + 1) ⟨k, 0, e0, g, [x]⟩ (y :: (lenL b.length ++ b)) := by
  obtain ⟨h1, h2, h3, h4, h5, h6, h7, h8, h9⟩ := h
  have hll := lenL_small b.length (by omega)
  have hl2 : (lenL b.length).length ≤ 2 := by rw [hll]; split <;> simp
  have hyb : 0 ≤ y ∧ y ≤ 255 := by rw [hy]; split <;> omega
  refine ⟨?_, ?_, ?_, ?_, ?_, ?_, ?_, by simp, ?_⟩
  · intro l
    rw [rightT]
    by_cases hl : l = 0
    · subst hl; rw [if_pos (.inl rfl)]; simp
    · rw [if_neg (by rcases hk with ⟨rfl, rfl⟩ | ⟨rfl, _⟩ <;> omega), if_neg (by omega), if_neg (by omega), if_neg (by omega), if_neg (by omega), rightL, rightL, h1]
      simp [e0_list]
      omega
  · rw [wrO, contF, if_neg (by omega), if_neg (by omega), if_neg (by omega), wrL, h2, Option.bind_some, if_pos (by simp; omega), wrL, Option.bind_some, List.nil_append]
    refine head_ok k g y b (by omega) (by omega) ?_
    rcases hk with ⟨rfl, rfl⟩ | ⟨rfl, _⟩
    · rw [hy]; decide
    · rw [hy, identL_6, if_neg (by decide)]; omega
  · rw [szT, szL, szL, h3]; omega
  · rw [txB, txBL, txBL, h4]; simp [e0_size]
  · rw [rngT, rngL, rngL]; exact ⟨by omega, h5, trivial⟩
  · simp; omega
  · intro z hz
    rcases List.mem_cons.1 hz with rfl | hz
    · exact hyb
    · rcases List.mem_append.1 hz with hz | hz
      · exact lenL_bs _ z hz
      · exact h7 z hz
  · intro l hl
    have hcut := cutO_len y b [] (by omega)
    rw [List.append_nil] at hcut
    cases l with
    | zero => rw [readO, hcut]; rfl
    | succ l =>
      rw [readO, hcut]
      simp only [Option.bind_some]
      rw [show (y :: (lenL b.length ++ b)).getD 0 0 = y by simp]
      have hkw : kidsWith (readO l) (b.length + 1) b [] = some none := by
        rw [kidsWith, if_pos (by omega), h9 l (by omega)]; rfl
      have hb : bodyO (fun c => kidsWith (readO l) (c.length + 1) c []) y b = some none := by
        unfold bodyO
        rcases hk with ⟨rfl, rfl⟩ | ⟨rfl, hg1, hg2⟩
        · rw [if_pos rfl] at hy
          subst hy
          rw [if_neg (by decide), if_neg (by decide), if_neg (by decide), if_neg (by decide), if_pos rfl]
          have hkw' : (fun c => kidsWith (readO l) (c.length + 1) c []) b = some none := hkw
          rw [hkw']
          rfl
        · rw [if_neg (by decide)] at hy
          rw [if_neg (by omega), if_neg (by omega), if_neg (by omega), if_neg (by omega), if_neg (by omega), if_pos (by omega)]
          have hkw' : (fun c => kidsWith (readO l) (c.length + 1) c []) b = some none := hkw
          rw [hkw']
          rfl
      rw [hb]
      rfl
theorem dinv_end (n : Nat) (hn : n ≤ 60) (a1 : Int) (x : S24) (b : List Int) (h : DInv n x b) (F : Nat) : sluicewaylaw01_DerDeep.l0 (F + 1) (n : Int) a1 true b (n : Int) x.f0 x.f1 x.f2 x.f3 x.f4 = some true := by
  obtain ⟨h1, h2, h3, h4, h5, h6, h7, h8, h9⟩ := h
  obtain ⟨f0, f1, f2, f3, f4⟩ := x
  have hok : okT ⟨f0, f1, f2, f3, f4⟩ = true := by rw [okT, h3, h4]; simp; omega
  rw [sluicewaylaw01_DerDeep.l0, if_neg (by omega)]
  dsimp only
  have hB : der_Bytes.f f0 f1 f2 f3 f4 = bytesF ⟨f0, f1, f2, f3, f4⟩ := rfl
  have hR : der_Right.f f0 f1 f2 f3 f4 = rightF ⟨f0, f1, f2, f3, f4⟩ := rfl
  have hO : der_Of.f b = ofF b := rfl
  rw [hB, hO]
  by_cases h20 : (n : Int) ≥ 20
  · have hr : rightT ⟨f0, f1, f2, f3, f4⟩ 20 = false := by rw [h1]; simp; omega
    have hBv : bytesF ⟨f0, f1, f2, f3, f4⟩ = some ([], 1) := by unfold bytesF; rw [if_pos hok, if_neg (by rw [hr]; decide)]
    have hOv : ofF b = some (0, 0, e0, 0, [], 2) := by unfold ofF; rw [if_pos ⟨h7, by omega⟩, if_neg (by omega), h9 20 (by omega)]; rfl
    have hRv : rightF ⟨f0, f1, f2, f3, f4⟩ = some false := by unfold rightF; rw [if_pos hok, hr]
    rw [hBv, hOv, hR, hRv]
    simp only [Option.bind_some]
    rw [if_pos h20]
    rfl
  · have hr : rightT ⟨f0, f1, f2, f3, f4⟩ 20 = true := by rw [h1]; simp; omega
    have hrd := (wr_rd ⟨f0, f1, f2, f3, f4⟩ 20 b [] hr h5 h2 (by omega)).1
    rw [List.append_nil] at hrd
    have hBv : bytesF ⟨f0, f1, f2, f3, f4⟩ = some (b, 0) := by unfold bytesF; rw [if_pos hok, if_pos hr, h2, Option.bind_some, if_neg (by omega)]
    have hOv : ofF b = some (f0, f1, f2, f3, f4, 0) := by unfold ofF; rw [if_pos ⟨h7, by omega⟩, if_neg (by omega), hrd]; rfl
    have hS : der_Same.f f0 f1 f2 f3 f4 f0 f1 f2 f3 f4 = some true := by
      show sameF ⟨f0, f1, f2, f3, f4⟩ ⟨f0, f1, f2, f3, f4⟩ = some true
      unfold sameF
      rw [if_pos (by rw [h3]; omega), (same_iff _ _).2 rfl]
    rw [hBv, hOv]
    simp only [Option.bind_some]
    rw [if_neg h20, hS]
    simp
theorem deep_loop (n : Nat) (hn : n ≤ 60) (a1 : Int) : ∀ (m i : Nat) (x : S24) (b : List Int) (F : Nat), i + m = n → DInv i x b → sluicewaylaw01_DerDeep.l0 (F + m + 1) (n : Int) a1 true b (i : Int) x.f0 x.f1 x.f2 x.f3 x.f4 = some true := by
  intro m
  induction m with
  | zero =>
    intro i x b F h hi
    obtain rfl : i = n := by omega
    exact dinv_end i hn a1 x b hi F
  | succ m ih =>
    intro i x b F h hi
    have hbl : b.length ≤ 3 + 3 * i := hi.2.2.2.2.2.1
    have hll := lenL_small b.length (by omega)
    have hw : wrap64 ((i : Int) + 1) = ((i + 1 : Nat) : Int) := by unfold wrap64; omega
    have hlm : ((b.length : Int)) % 256 = b.length := by omega
    have hg := and_mask (i : Int) 15 (by omega)
    have hgm : (160 + ((Go.bits .and .i64 (i : Int) 15) % 256)) % 256 = 160 + Go.bits .and .i64 (i : Int) 15 := by
      have h1 := hg.1; have h2 := hg.2
      rw [show ((15 : Nat) : Int) = 15 from rfl] at h1 h2
      omega
    rw [show F + (m + 1) + 1 = (F + m + 1) + 1 by omega, sluicewaylaw01_DerDeep.l0, if_pos (by omega), if_pos (by rw [IntKind.wrap_u64]; omega), hw, hlm, hgm]
    have ex : (⟨x.f0, x.f1, x.f2, x.f3, x.f4⟩ : S24) = x := by cases x; rfl
    rw [ex]
    by_cases hc : (Go.bits .and .i64 (shr .i64 a1 (IntKind.u64.wrap (Go.bits .and .i64 (i : Int) 31))) 1) = 1
    · have hst := dinv_step 6 (Go.bits .and .i64 (i : Int) 15) i x b (by omega) hi (.inr ⟨rfl, hg.1, hg.2⟩) _ rfl
      rw [if_neg (by decide), hll] at hst
      have fin := ih (i + 1) _ _ F (by omega) hst
      rw [if_pos hc]
      simp only [Option.bind_some]
      by_cases h128 : (b.length : Int) ≥ 128
      · rw [if_pos h128, if_pos (by simp; omega)]
        rw [if_neg (by omega)] at fin
        exact fin
      · rw [if_neg h128, if_pos (by simp; omega)]
        rw [if_pos (by omega)] at fin
        exact fin
    · have hst := dinv_step 5 0 i x b (by omega) hi (.inl ⟨rfl, rfl⟩) _ rfl
      rw [if_pos rfl, hll] at hst
      have fin := ih (i + 1) _ _ F (by omega) hst
      rw [if_neg hc]
      simp only [Option.bind_some]
      by_cases h128 : (b.length : Int) ≥ 128
      · rw [if_pos h128, if_pos (by simp; omega)]
        rw [if_neg (by omega)] at fin
        exact fin
      · rw [if_neg h128, if_pos (by simp; omega)]
        rw [if_pos (by omega)] at fin
        exact fin
theorem DerDeep : sluicewaylaw01_DerDeep.Pure := by
  intro a0 a1 _ _
  refine ⟨100, ?_⟩
  unfold sluicewaylaw01_DerDeep.f
  have hs : sluicewaylaw01_shown.f = some true := rfl
  simp only [hs, Option.bind_some]
  have hm := and_mask a0 65535 (by omega)
  have ht : 0 ≤ Int.tmod (Go.bits .and .i64 a0 65535) 61 ∧ Int.tmod (Go.bits .and .i64 a0 65535) 61 ≤ 60 := by
    have h1 := hm.1
    rw [show ((65535 : Nat) : Int) = 65535 from rfl] at h1
    rw [Int.tmod_eq_emod_of_nonneg h1]
    omega
  obtain ⟨n, hn⟩ : ∃ n : Nat, Int.tmod (Go.bits .and .i64 a0 65535) 61 = (n : Int) := ⟨(Int.tmod (Go.bits .and .i64 a0 65535) 61).toNat, by omega⟩
  rw [hn] at ht ⊢
  have h0 : DInv 0 ⟨1, 1, e0, 0, []⟩ [2, 1, 1] := by
    refine ⟨?_, by kernel_rfl, by rw [szT, szL], by rw [txB, txBL]; simp [e0_size], by rw [rngT, rngL]; exact ⟨by omega, trivial⟩, by simp, by intro z hz; simp at hz; omega, by simp, ?_⟩
    · intro l
      rw [rightT]
      by_cases hl : l = 0
      · subst hl; rw [if_pos (.inl rfl)]; simp
      · rw [if_neg (by omega), if_pos rfl]; simp [e0_list]; omega
    · intro l hl
      obtain rfl : l = 0 := by omega
      kernel_rfl
  have h := deep_loop n (by omega) a1 n 0 _ _ (99 - n) (by omega) h0
  rw [show 99 - n + n + 1 = 100 by omega] at h
  exact h
end Go.Proofs.Ytpphoifjhhidfaa.Pure
