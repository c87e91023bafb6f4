/- The law DerLengths told: lengths are written in as few bytes as it takes, and read back. -/
import Derived.Test.YtpphoifjhhidfaaLengths
namespace Go.Proofs.Ytpphoifjhhidfaa.Der
set_option linter.unusedVariables false
set_option linter.unusedSimpArgs false
open Go.RowKit
open Go.Proofs.YtpphoifjhhidfaaW.PrintWords
open Go.Proofs.Ytpphoifjhhidfaa.Gread
theorem and_maskL (a : Int) (m : Nat) (hm : m < 9223372036854775808) : 0 ≤ Go.bits .and .i64 a (m : Int) ∧ Go.bits .and .i64 a (m : Int) ≤ m := by
  show 0 ≤ IntKind.i64.wrap (((BitVec.ofInt 64 a &&& BitVec.ofInt 64 (m : Int)).toNat : Nat) : Int) ∧ IntKind.i64.wrap (((BitVec.ofInt 64 a &&& BitVec.ofInt 64 (m : Int)).toNat : Nat) : Int) ≤ m
  rw [BitVec.toNat_and, BitVec.ofInt_natCast, BitVec.toNat_ofNat, Nat.mod_eq_of_lt (by omega)]
  have h : (BitVec.ofInt 64 a).toNat &&& m ≤ m := Nat.and_le_right
  generalize (BitVec.ofInt 64 a).toNat &&& m = z at *
  rw [IntKind.wrap_i64]
  omega
theorem digN_one (x : Int) (h0 : 0 < x) (h1 : x < 256) : digN 7 x = [x] := by
  rw [digN, if_pos h0, show x / 256 = 0 by omega, show x % 256 = x by omega, digN, if_neg (by omega)]; rfl
theorem digN_two (x : Int) (h0 : 256 ≤ x) (h1 : x < 65536) : (digN 7 x).length = 2 := by
  rw [digN, if_pos (by omega), digN, if_pos (by omega), digN, if_neg (by omega)]; rfl
theorem digN_three (x : Int) (h0 : 65536 ≤ x) (h1 : x < 16777216) : (digN 7 x).length = 3 := by
  rw [digN, if_pos (by omega), digN, if_pos (by omega), digN, if_pos (by omega), digN, if_neg (by omega)]; rfl
theorem lenL_len (n : Nat) (h : n < 16777216) : (lenL n).length = if n < 128 then 1 else if n < 256 then 2 else if n < 65536 then 3 else 4 := by
  unfold lenL
  split
  · rfl
  · split
    · rw [digN_one _ (by omega) (by omega)]; rfl
    · split
      · rw [List.length_cons, digN_two _ (by omega) (by omega)]
      · rw [List.length_cons, digN_three _ (by omega) (by omega)]
theorem of_one' (x : Int) (c : List Int) (hx : 0 ≤ x ∧ x ≤ 255) (hc : Bs c) (hl : (x :: (lenL c.length ++ c)).length ≤ 65536) : ofF (x :: (lenL c.length ++ c)) = (bodyO K19 x c).map resF := by
  have hb : Bs (x :: (lenL c.length ++ c)) := by
    intro y hy
    rcases List.mem_cons.1 hy with rfl | hy
    · exact hx
    · rcases List.mem_append.1 hy with hy | hy
      · exact lenL_bs _ y hy
      · exact hc y hy
  unfold ofF
  rw [if_pos ⟨hb, by omega⟩, if_neg (by omega)]
  have hcut := cutO_len x c [] (by simp at hl; omega)
  rw [List.append_nil] at hcut
  rw [readO, hcut]
  simp only [Option.bind_some]
  rw [show (x :: (lenL c.length ++ c)).getD 0 0 = x by simp]
  cases bodyO K19 x c with
  | none => simp
  | some r => cases r with
    | none => simp [resF]
    | some t => simp [resF]
theorem of_badcut (l : List Int) (hb : Bs l) (hl : l.length ≤ 65536) (h : cutO l = some none) : ofF l = some (0, 0, e0, 0, [], 2) := by
  unfold ofF
  rw [if_pos ⟨hb, by omega⟩, if_neg (by omega), readO, h]
  rfl
theorem zeros_bytes (n : Nat) (hn : n < 70000) : bytesOf (strOfNums (List.replicate n 0)) = List.replicate n 0 := bytesOf_str _ (by intro x hx; have := List.eq_of_mem_replicate hx; omega)
theorem derLengths_calls (n : Int) (w : World) (hw : (Lit.int .i64 n).wf = true) : Calls Try.prog 6 #[.int .i64 n] w fun e w' => e = .returned (.bool true) ∧ Below w.heap.size w w' := by
  have hand := and_maskL n 16777215 (by omega)
  rw [show ((16777215 : Nat) : Int) = 16777215 from rfl] at hand
  obtain ⟨M, hM⟩ : ∃ M : Nat, Int.tmod (Go.bits .and .i64 n 16777215) 70000 = (M : Int) := by
    refine ⟨(Int.tmod (Go.bits .and .i64 n 16777215) 70000).toNat, ?_⟩
    rw [Int.tmod_eq_emod_of_nonneg hand.1]
    omega
  have hM2 : M < 70000 := by
    rw [Int.tmod_eq_emod_of_nonneg hand.1] at hM
    omega
  obtain ⟨c, hc⟩ : ∃ c : List Int, c = List.replicate M 0 := ⟨_, rfl⟩
  have hcl : c.length = M := by rw [hc]; simp
  have hcb : Bs c := by intro x hx; rw [hc] at hx; have := List.eq_of_mem_replicate hx; omega
  obtain ⟨S, hS⟩ : ∃ S, S = strOfNums c := ⟨_, rfl⟩
  have hSb : bytesOf S = c := by rw [hS, hc]; exact zeros_bytes M hM2
  have hSz : S.size = M := by rw [hS, strOfNums_size]; exact hcl
  have hok : okT ⟨2, 0, S, 0, []⟩ = true := by
    rw [okT, szT, szL, txB, txBL]
    simp
    omega
  have hr : rightT ⟨2, 0, S, 0, []⟩ 20 = true := by rw [rightT]; simp
  have hll := lenL_len M (by omega)
  have hwr : wrO ⟨2, 0, S, 0, []⟩ = some (4 :: (lenL M ++ c)) := by
    rw [wrO, contF, if_neg (by omega), if_neg (by omega), if_pos (.inl rfl), if_pos (by omega), Option.bind_some, hSb]
    have := head_ok 2 0 4 c (by omega) (by omega) (by decide)
    rwa [hcl] at this
  have hby : bytesF ⟨2, 0, S, 0, []⟩ = some (if 65536 < (4 :: (lenL M ++ c)).length then ([], 12) else (4 :: (lenL M ++ c), 0)) := by
    unfold bytesF
    rw [if_pos hok, if_pos hr, hwr, Option.bind_some]
  have hS2 : S = strOfNums (List.replicate (M : Int).toNat 0) := by rw [hS, hc]; rfl
  by_cases hlarge : 65532 < M
  · rw [if_pos (by simp [hcl, hll]; split <;> (try split) <;> (try split) <;> omega)] at hby
    exact lengths_large n M hM (by omega) (by omega) (by omega) S hS2 hby w
  have hlen : (4 :: (lenL M ++ c)).length ≤ 65536 := by
    simp [hcl, hll]; split <;> (try split) <;> (try split) <;> omega
  rw [if_neg (by omega)] at hby
  have hof : ofF (4 :: (lenL M ++ c)) = some (2, 0, S, 0, [], 0) := by
    have h := of_one' 4 c (by omega) hcb (by rw [hcl]; exact hlen)
    rw [hcl] at h
    rw [h, bodyO, if_neg (by omega), if_neg (by omega), if_pos rfl, ← hS]
    rfl
  have hsame : sameF ⟨2, 0, S, 0, []⟩ ⟨2, 0, S, 0, []⟩ = some true := by
    unfold sameF
    rw [if_pos (by rw [szT, szL]; omega), (same_iff _ _).2 rfl]
  by_cases h128 : 128 ≤ M
  · by_cases h256 : 256 ≤ M
    · exact lengths_256 n M hM (by omega) (by omega) (by omega) S hS2 _ hby hof hsame (by simp [hcl, hll]; split <;> (try split) <;> (try split) <;> omega) w
    · exact lengths_128 n M hM (by omega) (by omega) (by omega) (by omega) S hS2 _ hby hof hsame (by simp [hcl, hll]; split <;> (try split) <;> (try split) <;> omega) w
  · have hL : lenL M = [(M : Int)] := by rw [lenL, if_pos (by omega)]
    rw [hL] at hby hof
    have hd : (4 :: ([(M : Int)] ++ c)).drop 2 = c := rfl
    have hb2 : Bs ([4, 129, (M : Int)] ++ c) := by
      intro x hx
      simp at hx
      rcases hx with rfl | rfl | rfl | hx
      · omega
      · omega
      · omega
      · exact hcb x hx
    have hb3 : Bs ([4, 128] ++ c) := by
      intro x hx
      simp at hx
      rcases hx with rfl | rfl | hx
      · omega
      · omega
      · exact hcb x hx
    have h2 : ofF ([4, 129, (M : Int)] ++ c) = some (0, 0, e0, 0, [], 2) := by
      refine of_badcut _ hb2 (by simp; omega) ?_
      have h1 := length_eq M (by omega)
      rw [hL] at h1
      unfold cutO
      rw [if_neg (by simp), show ([4, 129, (M : Int)] ++ c).getD 1 0 = 129 from rfl, if_neg (by omega), if_neg (by simp; omega), show ((129 : Int) - 128).toNat = 1 from rfl, show (([4, 129, (M : Int)] ++ c).drop 2).take 1 = [(M : Int)] from rfl, show numBE [(M : Int)] = M by simp [numBE], h1, Option.bind_some, show (([4, 129, (M : Int)] ++ c).take (2 + 1)).drop 1 = [129, (M : Int)] from rfl, if_neg]
      rw [eqB_iff (by intro x hx; simp at hx; omega) (by intro x hx; simp at hx; omega)]
      simp
    have h3 : ofF ([(4 : Int), 128] ++ c) = some (0, 0, e0, 0, [], 2) := by
      refine of_badcut _ hb3 (by simp; omega) ?_
      have h1 := length_eq 0 (by omega)
      unfold cutO
      rw [if_neg (by simp), show ([(4 : Int), 128] ++ c).getD 1 0 = 128 from rfl, if_neg (by omega), if_neg (by simp; omega), show ((128 : Int) - 128).toNat = 0 from rfl, show (([(4 : Int), 128] ++ c).drop 2).take 0 = [] from rfl, show numBE [] = ((0 : Nat) : Int) from rfl, h1, Option.bind_some, show (([(4 : Int), 128] ++ c).take (2 + 0)).drop 1 = [128] from rfl, if_neg]
      rw [eqB_iff (by intro x hx; simp [lenL] at hx; omega) (by intro x hx; simp at hx; omega)]
      simp [lenL]
    exact lengths_short n M hM (by omega) (by omega) (by omega) S hS2 _ hby hof hsame (by simp [hcl]; omega) _ _ c hd rfl rfl h2 h3 w
end Go.Proofs.Ytpphoifjhhidfaa.Der
