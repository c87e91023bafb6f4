/- The document's SHA-1 of a message is digest. Condition: at most 10^5 bytes. -/
import Derived.Test.YtijnmoceafcamaaRefBlock
namespace Go.Proofs.Ytijnmoceafcamaa.Sha
set_option linter.unusedVariables false
set_option linter.unusedSimpArgs false
open Go.RowKit
open Go.Proofs.YtijnmoceafcamaaW.PrintWords Go.Proofs.YtijnmoceafcamaaW.PrintMore
open Go.Proofs.Ytijnmoceafcamaa.PShaLengths
theorem pad_l0 (m : List Int) (x3 : Int) (hm : m.length ≤ 100000) : ∀ (d i k : Nat), i + d = zc m.length →
    sluicewayref02_Padded.l0 (k + d) (strOfNums (m ++ 128 :: List.replicate i 0)) x3 = sluicewayref02_Padded.l0 k (strOfNums (m ++ 128 :: List.replicate (zc m.length) 0)) x3
  | 0, i, k, h => by
    obtain rfl : i = zc m.length := by omega
    rfl
  | d + 1, i, k, h => by
    have hsz : (strOfNums (m ++ 128 :: List.replicate i 0)).size = m.length + 1 + i := by rw [strOfNums_size]; simp; omega
    have hzc : i < zc m.length := by omega
    have hz63 : zc m.length ≤ 63 := by unfold zc; omega
    rw [show k + (d + 1) = k + d + 1 by omega, sluicewayref02_Padded.l0, hsz, if_neg (by unfold zc at hzc; omega), if_pos (by omega)]
    have e : strOfNums (m ++ 128 :: List.replicate i 0) ++ (⟨#[0]⟩ : ByteArray) = strOfNums (m ++ 128 :: List.replicate (i + 1) 0) := by
      rw [show (⟨#[0]⟩ : ByteArray) = strOfNums [0] from rfl, str_append, List.replicate_succ']
      simp
    rw [e]
    exact pad_l0 m x3 hm d (i + 1) k (by omega)
theorem pad_l1 (X : List Int) (N : Int) (T : List Int) (i k : Nat) (hi : i < 8) (hN : 0 ≤ N ∧ N ≤ 1000000) (hX : X.length ≤ 1000000) (hT : T.length ≤ 8) :
    sluicewayref02_Padded.l1 (k + 1) (strOfNums X) N (strOfNums T) i = sluicewayref02_Padded.l1 k (strOfNums X) (N / 256) (strOfNums ((N % 256) :: T)) ((i + 1 : Nat) : Int) := by
  have h1 : wrap64 ((i : Int) + 1) = ((i + 1 : Nat) : Int) := by rw [wrap64_small _ (by omega)]; omega
  have h2 : wrap64 (Int.tdiv N 256) = N / 256 := by rw [Int.tdiv_eq_ediv_of_nonneg hN.1, wrap64_small _ (by omega)]
  have h3 : Int.tmod N 256 % 256 = N % 256 := by rw [Int.tmod_eq_emod_of_nonneg hN.1]; omega
  rw [sluicewayref02_Padded.l1, if_pos (by omega), h2, h3, h1]
  simp only [Option.bind_some]
  rw [if_pos (by rw [strOfNums_size, strOfNums_size]; simp; omega), str_append]
  rfl
theorem pad_ref (k : Nat) (m : List Int) (hm : m.length ≤ 100000) : sluicewayref02_Padded.f (k + 10 + zc m.length) (strOfNums m) = some (strOfNums (m ++ pad8 m.length)) := by
  have hsz : (strOfNums m).size = m.length := strOfNums_size m
  have hw : wrap64 ((m.length : Int) * 8) = 8 * (m.length : Int) := by rw [wrap64_small _ (by omega)]; omega
  have hz : zc m.length ≤ 63 := by unfold zc; omega
  rw [sluicewayref02_Padded.f, hsz, if_pos (by omega), hw]
  have e : strOfNums m ++ (⟨#[128]⟩ : ByteArray) = strOfNums (m ++ 128 :: List.replicate 0 0) := by
    rw [show (⟨#[128]⟩ : ByteArray) = strOfNums [128] from rfl, str_append]
    rfl
  rw [e, pad_l0 m _ hm (zc m.length) 0 (k + 10) (by omega)]
  have hsz2 : (strOfNums (m ++ 128 :: List.replicate (zc m.length) 0)).size = m.length + 1 + zc m.length := by rw [strOfNums_size]; simp; omega
  rw [show k + 10 = k + 9 + 1 by omega, sluicewayref02_Padded.l0, hsz2, if_pos (by unfold zc; omega)]
  have hXl : (m ++ 128 :: List.replicate (zc m.length) 0).length ≤ 1000000 := by simp; omega
  generalize hX : m ++ 128 :: List.replicate (zc m.length) 0 = X at *
  have hN : 0 ≤ 8 * (m.length : Int) ∧ 8 * (m.length : Int) ≤ 1000000 := by omega
  have hpad : m ++ pad8 m.length = X ++ be8 (8 * m.length) := by rw [pad8, ← hX]; simp
  rw [hpad]
  generalize 8 * (m.length : Int) = N at *
  rw [show (⟨#[]⟩ : ByteArray) = strOfNums [] from rfl, show (0 : Int) = ((0 : Nat) : Int) from rfl, show k + 9 = k + 8 + 1 by omega]
  rw [pad_l1 X N [] 0 (k + 8) (by omega) hN hXl (by simp), show k + 8 = k + 7 + 1 by omega,
    pad_l1 X _ _ 1 (k + 7) (by omega) (by omega) hXl (by simp), show k + 7 = k + 6 + 1 by omega,
    pad_l1 X _ _ 2 (k + 6) (by omega) (by omega) hXl (by simp), show k + 6 = k + 5 + 1 by omega,
    pad_l1 X _ _ 3 (k + 5) (by omega) (by omega) hXl (by simp), show k + 5 = k + 4 + 1 by omega,
    pad_l1 X _ _ 4 (k + 4) (by omega) (by omega) hXl (by simp), show k + 4 = k + 3 + 1 by omega,
    pad_l1 X _ _ 5 (k + 3) (by omega) (by omega) hXl (by simp), show k + 3 = k + 2 + 1 by omega,
    pad_l1 X _ _ 6 (k + 2) (by omega) (by omega) hXl (by simp), show k + 2 = k + 1 + 1 by omega,
    pad_l1 X _ _ 7 (k + 1) (by omega) (by omega) hXl (by simp)]
  rw [sluicewayref02_Padded.l1, if_neg (by omega), if_pos (by rw [strOfNums_size, strOfNums_size]; simp; omega), str_append]
  congr 3
  simp only [be8, List.cons.injEq, and_true]
  omega
theorem sum_l1 (k : Nat) (s : Five) (X : List Int) (i : Nat) (hi : i < 5) (hs : Ok5 s) (hX : X.length ≤ 100) : sluicewayref02_Sum.l1 (k + 1) (fiveL s) X i = sluicewayref02_Sum.l1 k (fiveL s) (X ++ be4 ((fiveL s).getD i 0)) ((i + 1 : Nat) : Int) := by
  have h1 : wrap64 ((i : Int) + 1) = ((i + 1 : Nat) : Int) := by rw [wrap64_small _ (by omega)]; omega
  have hl : ((fiveL s).length : Int) = 5 := rfl
  have hx : w32 ((fiveL s).getD i 0) := by
    have : i = 0 ∨ i = 1 ∨ i = 2 ∨ i = 3 ∨ i = 4 := by omega
    rcases this with rfl | rfl | rfl | rfl | rfl
    · exact hs.a
    · exact hs.b
    · exact hs.c
    · exact hs.d
    · exact hs.e
  have hr : rd (fiveL s) (i : Int) = (fiveL s).getD i 0 := by rw [rd, Int.toNat_natCast]
  rw [sluicewayref02_Sum.l1, if_pos (by omega), hl, if_pos (by omega), if_pos (by omega), hr, h1]
  generalize (fiveL s).getD i 0 = x at *
  simp only [Option.bind_some]
  rw [if_pos (by simp; omega)]
  have e : [(wrap64 (Int.tdiv x 16777216)) % 256, (Int.tmod (wrap64 (Int.tdiv x 65536)) 256) % 256, (Int.tmod (wrap64 (Int.tdiv x 256)) 256) % 256, (Int.tmod x 256) % 256] = be4 x := by
    unfold w32 at hx
    rw [Int.tdiv_eq_ediv_of_nonneg hx.1, Int.tdiv_eq_ediv_of_nonneg hx.1, Int.tdiv_eq_ediv_of_nonneg hx.1, wrap64_small (x / 16777216) (by omega), wrap64_small (x / 65536) (by omega), wrap64_small (x / 256) (by omega), Int.tmod_eq_emod_of_nonneg (a := x / 65536) (by omega), Int.tmod_eq_emod_of_nonneg (a := x / 256) (by omega), Int.tmod_eq_emod_of_nonneg hx.1]
    simp only [be4, List.cons.injEq, and_true]
    refine ⟨trivial, ?_, ?_, ?_⟩ <;> omega
  rw [e]
theorem sum_out (k : Nat) (s : Five) (hs : Ok5 s) : sluicewayref02_Sum.l1 (k + 6) (fiveL s) [] 0 = some (strOfNums (outB s)) := by
  rw [show (0 : Int) = ((0 : Nat) : Int) from rfl, show k + 6 = k + 5 + 1 by omega, sum_l1 (k + 5) s [] 0 (by omega) hs (by simp), show k + 5 = k + 4 + 1 by omega,
    sum_l1 (k + 4) s _ 1 (by omega) hs (by simp [be4]), show k + 4 = k + 3 + 1 by omega,
    sum_l1 (k + 3) s _ 2 (by omega) hs (by simp [be4]), show k + 3 = k + 2 + 1 by omega,
    sum_l1 (k + 2) s _ 3 (by omega) hs (by simp [be4]), show k + 2 = k + 1 + 1 by omega,
    sum_l1 (k + 1) s _ 4 (by omega) hs (by simp [be4])]
  rw [sluicewayref02_Sum.l1, if_neg (by decide)]
  rfl
theorem blocks_ok (M : List Int) (hb : ∀ x ∈ M, 0 ≤ x ∧ x ≤ 255) : ∀ j, Ok5 (blocksF M iv j)
  | 0 => ⟨(show w32 1732584193 by unfold w32; decide), (show w32 4023233417 by unfold w32; decide), (show w32 2562383102 by unfold w32; decide), (show w32 271733878 by unfold w32; decide), (show w32 3285377520 by unfold w32; decide)⟩
  | j + 1 => addF_ok _ _
theorem sum_l0 (M : List Int) (N : Nat) (hM : M.length = 64 * N) (hN : N ≤ 10000) (hb : ∀ x ∈ M, 0 ≤ x ∧ x ≤ 255) : ∀ (n k j : Nat), j + n = N →
    sluicewayref02_Sum.l0 (k + 162 + n) (fiveL (blocksF M iv j)) (strOfNums M) ((64 * j : Nat) : Int) = sluicewayref02_Sum.l0 (k + 162) (fiveL (blocksF M iv N)) (strOfNums M) ((64 * N : Nat) : Int)
  | 0, k, j, h => by
    obtain rfl : j = N := by omega
    rfl
  | n + 1, k, j, h => by
    have hsz : (strOfNums M).size = 64 * N := by rw [strOfNums_size, hM]
    have h64 : wrap64 (((64 * j : Nat) : Int) + 64) = ((64 * j + 64 : Nat) : Int) := by rw [wrap64_small _ (by omega)]; omega
    have hp : ((M.drop (64 * j)).take 64).length = 64 := by rw [List.length_take, List.length_drop]; omega
    rw [show k + 162 + (n + 1) = k + 162 + n + 1 by omega, sluicewayref02_Sum.l0, hsz, h64, if_pos (by omega), if_pos (by omega), if_pos (by omega), if_pos (by omega), Int.toNat_natCast, Int.toNat_natCast, str_extract, show 64 * j + 64 - 64 * j = 64 by omega]
    rw [show k + 162 + n = (k + n) + 162 by omega, (block_ref (k + n) _ _ (blocks_ok M hb j) hp (fun x hx => hb x (List.mem_of_mem_drop (List.mem_of_mem_take hx)))).1]
    simp only [Option.bind_some]
    have e : compress (blocksF M iv j) ((M.drop (64 * j)).take 64) = blocksF M iv (j + 1) := rfl
    rw [e, show 64 * j + 64 = 64 * (j + 1) by omega, show k + n + 162 = k + 162 + n by omega]
    exact sum_l0 M N hM hN hb n k (j + 1) (by omega)
theorem sum_ref (m : List Int) (hm : m.length ≤ 100000) (hb : ∀ x ∈ m, 0 ≤ x ∧ x ≤ 255) : ∃ k, sluicewayref02_Sum.f k (strOfNums m) = some (strOfNums (digest m)) := by
  have hzc := zc m.length
  have hl : (pad8 m.length).length = 9 + zc m.length := by simp [pad8, be8]; omega
  have hz : zc m.length ≤ 63 := by unfold zc; omega
  obtain ⟨N, hN⟩ : ∃ N, (m ++ pad8 m.length).length = 64 * N := ⟨(m.length + 9 + zc m.length) / 64, by rw [List.length_append, hl]; unfold zc; omega⟩
  have hNb : N ≤ 10000 := by rw [List.length_append, hl] at hN; omega
  have hMb : ∀ x ∈ m ++ pad8 m.length, 0 ≤ x ∧ x ≤ 255 := byte2 hb (pad8_byte _)
  refine ⟨N + 163 + 73, ?_⟩
  rw [sluicewayref02_Sum.f]
  have hk : N + 163 + 73 = (N + 163 + 63 - zc m.length) + 10 + zc m.length := by omega
  rw [hk, pad_ref _ m hm, ← hk]
  simp only [Option.bind_some]
  have hd : digest m = outB (blocksF (m ++ pad8 m.length) iv N) := by
    rw [digest, hN, show 64 * N / 64 = N by omega]
  generalize m ++ pad8 m.length = M at *
  have h0 : [1732584193, 4023233417, 2562383102, 271733878, 3285377520] = fiveL (blocksF M iv 0) := rfl
  rw [h0, show (0 : Int) = ((64 * 0 : Nat) : Int) from rfl, show N + 163 + 73 = 74 + 162 + N by omega, sum_l0 M N hN hNb hMb N 74 0 (by omega)]
  rw [show 74 + 162 = 235 + 1 from rfl, sluicewayref02_Sum.l0, if_neg (by rw [strOfNums_size, hN]; omega), if_pos (by decide), hd]
  exact sum_out 229 _ (blocks_ok M hMb N)
end Go.Proofs.Ytijnmoceafcamaa.Sha
