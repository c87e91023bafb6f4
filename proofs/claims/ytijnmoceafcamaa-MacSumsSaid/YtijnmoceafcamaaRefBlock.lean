/- The document's block of SHA-1 is compress. -/
import Derived.Test.YtijnmoceafcamaaRefBits
namespace Go.Proofs.Ytijnmoceafcamaa.Sha
set_option linter.unusedVariables false
set_option linter.unusedSimpArgs false
open Go.RowKit
open Go.Proofs.YtijnmoceafcamaaW.PrintWords Go.Proofs.YtijnmoceafcamaaW.PrintMore
open Go.Proofs.Ytijnmoceafcamaa.PShaLengths
theorem tdiv20 (t : Nat) (ht : t < 80) : wrap64 (Int.tdiv (t : Int) 20) = ((t / 20 : Nat) : Int) := by
  rw [Int.tdiv_eq_ediv_of_nonneg (by omega), wrap64_small _ (by omega)]
  omega
theorem stp0 (t : Nat) (ht : t < 20) (b c d : Int) : stp t b c d = (Go.bits .or .u32 (Go.bits .and .u32 b c) (Go.bits .and .u32 (Go.bits .xor .u32 4294967295 b) d), 1518500249) := by
  unfold stp Gstep.sha_step.f
  rw [tdiv20 t (by omega), if_pos (by omega)]
  rfl
theorem stp1 (t : Nat) (h : 20 ≤ t) (ht : t < 40) (b c d : Int) : stp t b c d = (Go.bits .xor .u32 (Go.bits .xor .u32 b c) d, 1859775393) := by
  unfold stp Gstep.sha_step.f
  rw [tdiv20 t (by omega), if_neg (by omega), if_pos (by omega)]
  rfl
theorem stp2 (t : Nat) (h : 40 ≤ t) (ht : t < 60) (b c d : Int) : stp t b c d = (Go.bits .or .u32 (Go.bits .or .u32 (Go.bits .and .u32 b c) (Go.bits .and .u32 b d)) (Go.bits .and .u32 c d), 2400959708) := by
  unfold stp Gstep.sha_step.f
  rw [tdiv20 t (by omega), if_neg (by omega), if_neg (by omega), if_pos (by omega)]
  rfl
theorem stp3 (t : Nat) (h : 60 ≤ t) (ht : t < 80) (b c d : Int) : stp t b c d = (Go.bits .xor .u32 (Go.bits .xor .u32 b c) d, 3395469782) := by
  unfold stp Gstep.sha_step.f
  rw [tdiv20 t (by omega), if_neg (by omega), if_neg (by omega), if_neg (by omega)]
  rfl
structure Ok5 (s : Five) : Prop where
  a : w32 s.a
  b : w32 s.b
  c : w32 s.c
  d : w32 s.d
  e : w32 s.e
theorem sum5 (x f e k w : Int) (hx : w32 x) (hf : w32 f) (he : w32 e) (hk : w32 k) (hw : w32 w) : Int.tmod (wrap64 ((wrap64 ((wrap64 ((wrap64 (x + f)) + e)) + k)) + w)) 4294967296 = (x + f + e + k + w) % 4294967296 := by
  unfold w32 at *
  rw [wrap64_small (x + f) (by omega), wrap64_small (x + f + e) (by omega), wrap64_small (x + f + e + k) (by omega), wrap64_small _ (by omega), Int.tmod_eq_emod_of_nonneg (by omega)]
theorem mod32 (x : Int) : w32 (x % 4294967296) := by unfold w32; omega
theorem round_ok (w : Int) (t : Nat) (s : Five) (h : Ok5 s) : Ok5 (roundF w t s) := by
  rw [roundF_eq]
  exact ⟨mod32 _, h.a, (rot_same2 s.b 30 h.b (.inr (.inr rfl))).2, h.c, h.d⟩
theorem l1_step (k : Nat) (h : List Int) (W : List Int) (t : Nat) (s : Five) (ht : t < 80) (hW : W.length = 80) (hw : w32 (W.getD t 0)) (hs : Ok5 s) :
    sluicewayref02_block.l1 (k + 1) h W s.a s.b s.c s.d s.e t = sluicewayref02_block.l1 k h W (roundF (W.getD t 0) t s).a (roundF (W.getD t 0) t s).b (roundF (W.getD t 0) t s).c (roundF (W.getD t 0) t s).d (roundF (W.getD t 0) t s).e ((t + 1 : Nat) : Int) := by
  obtain ⟨r5, r5w⟩ := rot_same2 s.a 5 hs.a (.inr (.inl rfl))
  obtain ⟨r30, r30w⟩ := rot_same2 s.b 30 hs.b (.inr (.inr rfl))
  have hrd : rd W (t : Int) = W.getD t 0 := rfl
  have hlt : (t : Int) < (W.length : Int) := by omega
  have h1 : wrap64 ((t : Int) + 1) = ((t + 1 : Nat) : Int) := by rw [wrap64_small _ (by omega)]; omega
  rw [roundF_eq, sluicewayref02_block.l1, if_pos (by omega)]
  by_cases c1 : t < 20
  · obtain ⟨e1, w1⟩ := and_same hs.b hs.c
    obtain ⟨e2, w2⟩ := not_same hs.b
    obtain ⟨e3, w3⟩ := and_same w2 hs.d
    obtain ⟨e4, w4⟩ := or_same w1 w3
    rw [if_pos (by omega), r5, stp0 t c1]
    simp only [Option.bind_some]
    rw [if_pos (by omega), if_pos hlt, r30, h1]
    simp only [Option.bind_some]
    rw [e2, e1, e3, e4, hrd, sum5 _ _ _ _ _ r5w w4 hs.e (by unfold w32; omega) hw]
  · rw [if_neg (by omega)]
    by_cases c2 : t < 40
    · obtain ⟨e1, w1⟩ := xor_same hs.b hs.c
      obtain ⟨e2, w2⟩ := xor_same w1 hs.d
      rw [if_pos (by omega), r5, stp1 t (by omega) c2]
      simp only [Option.bind_some]
      rw [if_pos (by omega), if_pos hlt, r30, h1]
      simp only [Option.bind_some]
      rw [e1, e2, hrd, sum5 _ _ _ _ _ r5w w2 hs.e (by unfold w32; omega) hw]
    · rw [if_neg (by omega)]
      by_cases c3 : t < 60
      · obtain ⟨e1, w1⟩ := and_same hs.b hs.c
        obtain ⟨e2, w2⟩ := and_same hs.b hs.d
        obtain ⟨e3, w3⟩ := or_same w1 w2
        obtain ⟨e4, w4⟩ := and_same hs.c hs.d
        obtain ⟨e5, w5⟩ := or_same w3 w4
        rw [if_pos (by omega), r5, stp2 t (by omega) c3]
        simp only [Option.bind_some]
        rw [if_pos (by omega), if_pos hlt, r30, h1]
        simp only [Option.bind_some]
        rw [e1, e2, e3, e4, e5, hrd, sum5 _ _ _ _ _ r5w w5 hs.e (by unfold w32; omega) hw]
      · obtain ⟨e1, w1⟩ := xor_same hs.b hs.c
        obtain ⟨e2, w2⟩ := xor_same w1 hs.d
        rw [if_neg (by omega), r5, stp3 t (by omega) ht]
        simp only [Option.bind_some]
        rw [if_pos (by omega), if_pos hlt, r30, h1]
        simp only [Option.bind_some]
        rw [e1, e2, hrd, sum5 _ _ _ _ _ r5w w2 hs.e (by unfold w32; omega) hw]
theorem rounds_ok (W : List Int) (s : Five) (hs : Ok5 s) : ∀ t, Ok5 (rounds W s t)
  | 0 => by rw [rounds_zero]; exact hs
  | t + 1 => by rw [rounds_succ]; exact round_ok _ _ _ (rounds_ok W s hs t)
theorem l1_run (h W : List Int) (s : Five) (hW : W.length = 80) (hw : ∀ j, j < 80 → w32 (W.getD j 0)) (hs : Ok5 s) : ∀ (n k t : Nat), t + n = 80 →
    sluicewayref02_block.l1 (k + n) h W (rounds W s t).a (rounds W s t).b (rounds W s t).c (rounds W s t).d (rounds W s t).e t = sluicewayref02_block.l1 k h W (rounds W s 80).a (rounds W s 80).b (rounds W s 80).c (rounds W s 80).d (rounds W s 80).e 80
  | 0, k, t, ht => by
    obtain rfl : t = 80 := by omega
    rfl
  | n + 1, k, t, ht => by
    have h1 := l1_step (k + n) h W t (rounds W s t) (by omega) hW (hw t (by omega)) (rounds_ok W s hs t)
    rw [← rounds_succ] at h1
    rw [show k + (n + 1) = k + n + 1 by omega, h1]
    exact l1_run h W s hW hw hs n k (t + 1) (by omega)
def fiveL (s : Five) : List Int := [s.a, s.b, s.c, s.d, s.e]
theorem tmod32 (x y : Int) (hx : w32 x) (hy : w32 y) : Int.tmod (wrap64 (x + y)) 4294967296 = m32 (x + y) := by
  unfold w32 at *
  rw [wrap64_small _ (by omega), Int.tmod_eq_emod_of_nonneg (by omega)]
  rfl
theorem l1_end (k : Nat) (W : List Int) (s r : Five) (hs : Ok5 s) (hr : Ok5 r) : sluicewayref02_block.l1 (k + 1) (fiveL s) W r.a r.b r.c r.d r.e 80 = some (fiveL (addF s r)) := by
  rw [sluicewayref02_block.l1, if_neg (by decide)]
  have hl : ((fiveL s).length : Int) = 5 := rfl
  rw [hl, if_pos (by decide), if_pos (by decide), if_pos (by decide), if_pos (by decide), if_pos (by decide)]
  have e0 : rd (fiveL s) 0 = s.a := rfl
  have e1 : rd (fiveL s) 1 = s.b := rfl
  have e2 : rd (fiveL s) 2 = s.c := rfl
  have e3 : rd (fiveL s) 3 = s.d := rfl
  have e4 : rd (fiveL s) 4 = s.e := rfl
  rw [e0, e1, e2, e3, e4, tmod32 _ _ hs.a hr.a, tmod32 _ _ hs.b hr.b, tmod32 _ _ hs.c hr.c, tmod32 _ _ hs.d hr.d, tmod32 _ _ hs.e hr.e]
  rfl
theorem addF_ok (s r : Five) : Ok5 (addF s r) := ⟨mod32 _, mod32 _, mod32 _, mod32 _, mod32 _⟩
/-! ### bytes -/
theorem str_append (a b : List Int) : strOfNums a ++ strOfNums b = strOfNums (a ++ b) := by
  apply ByteArray.ext
  simp [strOfNums]
theorem str_bt (l : List Int) (hb : ∀ x ∈ l, 0 ≤ x ∧ x ≤ 255) (j : Nat) (hj : j < l.length) : bt (strOfNums l) (j : Int) = l.getD j 0 := by
  have hs : (j : Int).toNat < (strOfNums l).size := by rw [strOfNums_size]; simpa using hj
  have hx := hb l[j] (List.getElem_mem hj)
  rw [bt, dif_pos hs]
  have e : (strOfNums l)[(j : Int).toNat]'hs = UInt8.ofNat (l[j]).toNat := by
    show (strOfNums l).data[(j : Int).toNat]'_ = _
    simp [strOfNums]
  rw [e, UInt8.toNat_ofNat_of_lt' (by simp [UInt8.size]; omega)]
  simp [List.getD_eq_getElem?_getD, hj]
  omega
theorem str_extract (l : List Int) (i j : Nat) : (strOfNums l).extract i j = strOfNums ((l.drop i).take (j - i)) := by
  apply ByteArray.ext
  apply Array.toList_inj.1
  simp [strOfNums, List.map_take, List.map_drop]
theorem word_eq (p : List Int) (t : Nat) (hp : p.length = 64) (hb : ∀ x ∈ p, 0 ≤ x ∧ x ≤ 255) (ht : t < 16) : sluicewayref02_word.f ((strOfNums p).extract (4 * t) (4 * t + 4)) = some (wd p t) ∧ w32 (wd p t) := by
  rw [str_extract, show 4 * t + 4 - 4 * t = 4 by omega]
  have hl : ((p.drop (4 * t)).take 4).length = 4 := by rw [List.length_take, List.length_drop]; omega
  have hqb : ∀ x ∈ (p.drop (4 * t)).take 4, 0 ≤ x ∧ x ≤ 255 := fun x hx => hb x (List.mem_of_mem_drop (List.mem_of_mem_take hx))
  have hg : ∀ j, j < 4 → ((p.drop (4 * t)).take 4).getD j 0 = p.getD (4 * t + j) 0 := by
    intro j hj
    simp only [List.getD_eq_getElem?_getD, List.getElem?_take_of_lt hj, List.getElem?_drop]
  have b0 := str_bt _ hqb 0 (by omega)
  have b1 := str_bt _ hqb 1 (by omega)
  have b2 := str_bt _ hqb 2 (by omega)
  have b3 := str_bt _ hqb 3 (by omega)
  rw [hg 0 (by omega)] at b0
  rw [hg 1 (by omega)] at b1
  rw [hg 2 (by omega)] at b2
  rw [hg 3 (by omega)] at b3
  have x0 := getD_byte hb (4 * t + 0)
  have x1 := getD_byte hb (4 * t + 1)
  have x2 := getD_byte hb (4 * t + 2)
  have x3 := getD_byte hb (4 * t + 3)
  have hsz : ((strOfNums ((p.drop (4 * t)).take 4)).size : Int) = 4 := by rw [strOfNums_size, hl]; rfl
  rw [sluicewayref02_word.f, hsz, if_pos (by decide), if_pos (by decide), if_pos (by decide), if_pos (by decide)]
  rw [show bt (strOfNums ((p.drop (4 * t)).take 4)) 0 = p.getD (4 * t + 0) 0 from b0, show bt (strOfNums ((p.drop (4 * t)).take 4)) 1 = p.getD (4 * t + 1) 0 from b1, show bt (strOfNums ((p.drop (4 * t)).take 4)) 2 = p.getD (4 * t + 2) 0 from b2, show bt (strOfNums ((p.drop (4 * t)).take 4)) 3 = p.getD (4 * t + 3) 0 from b3]
  have e : wd p t = p.getD (4 * t + 0) 0 * 16777216 + p.getD (4 * t + 1) 0 * 65536 + p.getD (4 * t + 2) 0 * 256 + p.getD (4 * t + 3) 0 := rfl
  rw [e]
  generalize p.getD (4 * t + 0) 0 = y0 at *
  generalize p.getD (4 * t + 1) 0 = y1 at *
  generalize p.getD (4 * t + 2) 0 = y2 at *
  generalize p.getD (4 * t + 3) 0 = y3 at *
  unfold w32
  constructor
  · congr 1
    unfold wrap64
    omega
  · omega
theorem w32_zero : w32 0 := by unfold w32; omega
theorem next_ok (p W : List Int) (t : Nat) (hp : p.length = 64) (hb : ∀ x ∈ p, 0 ≤ x ∧ x ≤ 255) (hW : ∀ j, w32 (W.getD j 0)) : w32 (nextW p W t) := by
  unfold nextW
  split
  · exact (word_eq p t hp hb (by assumption)).2
  · exact (rot_same2 _ 1 (xor_same (xor_same (xor_same (hW _) (hW _)).2 (hW _)).2 (hW _)).2 (.inl rfl)).2
theorem sched_ok (p : List Int) (hp : p.length = 64) (hb : ∀ x ∈ p, 0 ≤ x ∧ x ≤ 255) : ∀ t j, w32 ((sched p t).getD j 0)
  | 0, j => by
    rw [sched_zero, List.getD_eq_getElem?_getD, List.getElem?_replicate]
    split <;> exact w32_zero
  | t + 1, j => by
    rw [sched_succ, List.getD_eq_getElem?_getD, List.getElem?_set]
    split
    · split
      · exact next_ok p _ t hp hb (sched_ok p hp hb t)
      · exact w32_zero
    · rw [← List.getD_eq_getElem?_getD]
      exact sched_ok p hp hb t j
theorem l0_step (k : Nat) (h p : List Int) (t : Nat) (ht : t < 80) (hp : p.length = 64) (hb : ∀ x ∈ p, 0 ≤ x ∧ x ≤ 255) :
    sluicewayref02_block.l0 (k + 1) h (strOfNums p) (sched p t) t = sluicewayref02_block.l0 k h (strOfNums p) (sched p (t + 1)) ((t + 1 : Nat) : Int) := by
  have hl := sched_length p t
  have hlI : ((sched p t).length : Int) = 80 := by rw [hl]; rfl
  have h1 : wrap64 ((t : Int) + 1) = ((t + 1 : Nat) : Int) := by rw [wrap64_small _ (by omega)]; omega
  have hW := sched_ok p hp hb t
  have hsz : ((strOfNums p).size : Int) = 64 := by rw [strOfNums_size, hp]; rfl
  rw [sluicewayref02_block.l0, if_pos (by omega), hlI, hsz]
  by_cases c1 : t < 16
  · have e4 : wrap64 (4 * (t : Int)) = ((4 * t : Nat) : Int) := by rw [wrap64_small _ (by omega)]; omega
    have e8 : wrap64 (((4 * t : Nat) : Int) + 4) = ((4 * t + 4 : Nat) : Int) := by rw [wrap64_small _ (by omega)]; omega
    rw [if_pos (by omega), e4, e8, if_pos (by omega), if_pos (by omega), if_pos (by omega), Int.toNat_natCast, Int.toNat_natCast, (word_eq p t hp hb c1).1]
    simp only [Option.bind_some]
    rw [if_pos (by omega), if_pos (by omega), h1, Int.toNat_natCast, sched_succ]
    have e : nextW p (sched p t) t = wd p t := if_pos c1
    rw [e]
  · have e3 : wrap64 ((t : Int) - 3) = ((t - 3 : Nat) : Int) := by rw [wrap64_small _ (by omega)]; omega
    have e8 : wrap64 ((t : Int) - 8) = ((t - 8 : Nat) : Int) := by rw [wrap64_small _ (by omega)]; omega
    have e14 : wrap64 ((t : Int) - 14) = ((t - 14 : Nat) : Int) := by rw [wrap64_small _ (by omega)]; omega
    have e16 : wrap64 ((t : Int) - 16) = ((t - 16 : Nat) : Int) := by rw [wrap64_small _ (by omega)]; omega
    have g : ∀ j : Nat, rd (sched p t) (j : Int) = (sched p t).getD j 0 := fun j => by rw [rd, Int.toNat_natCast]
    obtain ⟨x1, y1⟩ := xor_same (hW (t - 3)) (hW (t - 8))
    obtain ⟨x2, y2⟩ := xor_same y1 (hW (t - 14))
    obtain ⟨x3, y3⟩ := xor_same y2 (hW (t - 16))
    rw [if_neg (by omega), e3, e8, e14, e16, if_pos (by omega), if_pos (by omega), if_pos (by omega), if_pos (by omega), if_pos (by omega), if_pos (by omega), if_pos (by omega), if_pos (by omega), g, g, g, g, x1, x2, x3, (rot_same2 _ 1 y3 (.inl rfl)).1]
    simp only [Option.bind_some]
    rw [if_pos (by omega), if_pos (by omega), h1, Int.toNat_natCast, sched_succ]
    have e : nextW p (sched p t) t = rot (Go.bits .xor .u32 (Go.bits .xor .u32 (Go.bits .xor .u32 ((sched p t).getD (t - 3) 0) ((sched p t).getD (t - 8) 0)) ((sched p t).getD (t - 14) 0)) ((sched p t).getD (t - 16) 0)) 1 := if_neg c1
    rw [e]
theorem l0_run (h p : List Int) (hp : p.length = 64) (hb : ∀ x ∈ p, 0 ≤ x ∧ x ≤ 255) : ∀ (n k t : Nat), t + n = 80 →
    sluicewayref02_block.l0 (k + n) h (strOfNums p) (sched p t) t = sluicewayref02_block.l0 k h (strOfNums p) (sched p 80) 80
  | 0, k, t, ht => by
    obtain rfl : t = 80 := by omega
    rfl
  | n + 1, k, t, ht => by
    rw [show k + (n + 1) = k + n + 1 by omega, l0_step (k + n) h p t (by omega) hp hb]
    exact l0_run h p hp hb n k (t + 1) (by omega)
theorem block_ref (k : Nat) (s : Five) (p : List Int) (hs : Ok5 s) (hp : p.length = 64) (hb : ∀ x ∈ p, 0 ≤ x ∧ x ≤ 255) : sluicewayref02_block.f (k + 162) (fiveL s) (strOfNums p) = some (fiveL (compress s p)) ∧ Ok5 (compress s p) := by
  refine ⟨?_, addF_ok _ _⟩
  have hW : ∀ j, j < 80 → w32 ((sched p 80).getD j 0) := fun j _ => sched_ok p hp hb 80 j
  have hWl := sched_length p 80
  rw [sluicewayref02_block.f, if_pos (by decide), ← sched_zero p, show ((0 : Int)) = ((0 : Nat) : Int) from rfl, show k + 162 = (k + 82) + 80 by omega, l0_run (fiveL s) p hp hb 80 (k + 82) 0 rfl]
  rw [show k + 82 = k + 81 + 1 by omega, sluicewayref02_block.l0, if_neg (by decide)]
  have hl : ((fiveL s).length : Int) = 5 := rfl
  rw [hl, if_pos (by decide), if_pos (by decide), if_pos (by decide), if_pos (by decide), if_pos (by decide)]
  have e0 : rd (fiveL s) 0 = (rounds (sched p 80) s 0).a := by rw [rounds_zero]; rfl
  have e1 : rd (fiveL s) 1 = (rounds (sched p 80) s 0).b := by rw [rounds_zero]; rfl
  have e2 : rd (fiveL s) 2 = (rounds (sched p 80) s 0).c := by rw [rounds_zero]; rfl
  have e3 : rd (fiveL s) 3 = (rounds (sched p 80) s 0).d := by rw [rounds_zero]; rfl
  have e4 : rd (fiveL s) 4 = (rounds (sched p 80) s 0).e := by rw [rounds_zero]; rfl
  rw [e0, e1, e2, e3, e4]
  have h2 := l1_run (fiveL s) (sched p 80) s hWl hW hs 80 (k + 1) 0 rfl
  rw [show k + 81 = k + 1 + 80 by omega]
  rw [show ((0 : Int)) = ((0 : Nat) : Int) from rfl, h2, l1_end k (sched p 80) s _ hs (rounds_ok _ s hs 80)]
  rfl
end Go.Proofs.Ytijnmoceafcamaa.Sha
