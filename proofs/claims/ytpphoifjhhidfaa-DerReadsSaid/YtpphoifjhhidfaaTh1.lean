/- Plain laws: bytes, numbers, lengths, cuts. -/
import Derived.Test.YtpphoifjhhidfaaOf
import Derived.Laws.Strings
namespace Go.Proofs.Ytpphoifjhhidfaa.Der
set_option linter.unusedVariables false
set_option linter.unusedSimpArgs false
open Go.RowKit
open Go.Proofs.YtpphoifjhhidfaaW.PrintWords
open Go.Proofs.Ytpphoifjhhidfaa.Gread
abbrev Bs (l : List Int) : Prop := ∀ x ∈ l, 0 ≤ x ∧ x ≤ 255
theorem u8_inj {x y : Int} (hx : 0 ≤ x ∧ x ≤ 255) (hy : 0 ≤ y ∧ y ≤ 255) (h : UInt8.ofNat x.toNat = UInt8.ofNat y.toNat) : x = y := by
  have h1 := congrArg UInt8.toNat h
  simp only [UInt8.toNat_ofNat'] at h1
  omega
theorem strList (l : List Int) : (strOfNums l).toList = l.map fun n => UInt8.ofNat n.toNat := by
  rw [ByteArray.toList_eq]; rfl
theorem eqB_iff : ∀ {a b : List Int}, Bs a → Bs b → (eqB a b = true ↔ a = b) := by
  intro a b ha hb
  unfold eqB
  rw [strList, strList, beq_iff_eq]
  constructor
  · intro h
    induction a generalizing b with
    | nil => cases b with
      | nil => rfl
      | cons y s => simp at h
    | cons x r ih => cases b with
      | nil => simp at h
      | cons y s =>
        simp only [List.map_cons, List.cons.injEq] at h
        rw [u8_inj (ha x (by simp)) (hb y (by simp)) h.1, ih (fun z hz => ha z (by simp [hz])) (fun z hz => hb z (by simp [hz])) h.2]
  · rintro rfl; rfl
theorem rev_short (l : List Int) (h : l.length ≤ 9) (k : Nat) : slices_Reverse_byte_byte.f (k + 6) l = some l.reverse := by
  rcases l with _ | ⟨a0, _ | ⟨a1, _ | ⟨a2, _ | ⟨a3, _ | ⟨a4, _ | ⟨a5, _ | ⟨a6, _ | ⟨a7, _ | ⟨a8, _ | ⟨a9, l⟩⟩⟩⟩⟩⟩⟩⟩⟩⟩
  all_goals first
    | (simp [slices_Reverse_byte_byte.f, slices_Reverse_byte_byte.l0, rd, wrap64]; done)
    | (exfalso; simp at h; done)
    | (exfalso; simp at h; omega)
def numN : Nat → Int → List Int
  | 0, x => [x % 256]
  | k + 1, x => if -128 ≤ x ∧ x ≤ 127 then [x % 256] else numN k (x / 256) ++ [x % 256]
theorem i8_wrap (y : Int) (h : 0 ≤ y ∧ y ≤ 255) : IntKind.i8.wrap y = if y < 128 then y else y - 256 := by
  simp only [IntKind.wrap, IntKind.bits, IntKind.signed]; simp; split <;> omega
theorem num_end (acc : List Int) (x : Int) (h : -128 ≤ x ∧ x ≤ 127) (hl : acc.length ≤ 8) (F : Nat) (hF : 6 ≤ F) : der_number.l0 (F + 1) x acc = some ([x % 256] ++ acc.reverse) := by
  obtain ⟨G, rfl⟩ : ∃ G, F = G + 6 := ⟨F - 6, by omega⟩
  have hlen : (acc ++ [x % 256]).length = acc.length + 1 := by simp
  have hw : wrap64 (((acc ++ [x % 256]).length : Int) - 1) = acc.length := by rw [hlen]; unfold wrap64; omega
  have hrd : rd (acc ++ [x % 256]) (acc.length : Int) = x % 256 := by simp [rd]
  rw [der_number.l0, if_pos (by omega)]
  simp only [Option.bind_some]
  rw [hw, hrd, i8_wrap _ (by omega)]
  rw [if_pos (by omega), if_pos (by omega), if_pos (by rw [hlen]; omega)]
  rw [if_pos ?_]
  · rw [rev_short _ (by rw [hlen]; omega)]
    simp
  · by_cases hx : 0 ≤ x
    · have h1 : x / 9223372036854775808 = 0 := by omega
      have h2 : x % 256 = x := by omega
      rw [h1, h2, if_pos (by omega), show wrap64 x = x by unfold wrap64; omega]
      simpa using hx
    · have h1 : x / 9223372036854775808 = -1 := by omega
      have h2 : x % 256 = x + 256 := by omega
      rw [h1, h2, if_neg (by omega), show wrap64 (x + 256 - 256) = x by unfold wrap64; omega]
      simp; omega
theorem num_l0 : ∀ (j : Nat) (x : Int) (acc : List Int) (F : Nat), 6 ≤ F → acc.length + j ≤ 8 → -(128 * 256 ^ j) ≤ x → x < 128 * 256 ^ j → der_number.l0 (F + j + 1) x acc = some (numN j x ++ acc.reverse) := by
  intro j
  induction j with
  | zero =>
    intro x acc F hF hl h1 h2
    rw [numN]
    exact num_end acc x (by simp at h1 h2; omega) (by omega) F hF
  | succ j ih =>
    intro x acc F hF hl h1 h2
    by_cases h : -128 ≤ x ∧ x ≤ 127
    · rw [numN, if_pos h]
      exact num_end acc x h (by omega) (F + (j + 1)) (by omega)
    · rw [numN, if_neg h]
      have hlen : (acc ++ [x % 256]).length = acc.length + 1 := by simp
      have hw : wrap64 (((acc ++ [x % 256]).length : Int) - 1) = acc.length := by rw [hlen]; unfold wrap64; omega
      have hrd : rd (acc ++ [x % 256]) (acc.length : Int) = x % 256 := by simp [rd]
      have hpow : (128 * 256 ^ (j + 1) : Int) = 256 * (128 * 256 ^ j) := by rw [Int.pow_succ]; omega
      rw [hpow] at h1 h2
      have IH := ih (x / 256) (acc ++ [x % 256]) F hF (by rw [hlen]; omega) (by omega) (by omega)
      rw [List.reverse_append] at IH
      have hres : numN j (x / 256) ++ [x % 256] ++ acc.reverse = numN j (x / 256) ++ ([x % 256].reverse ++ acc.reverse) := by simp
      rw [hres, ← IH]
      rw [show F + (j + 1) + 1 = (F + j + 1) + 1 by omega, der_number.l0, if_pos (by omega)]
      simp only [Option.bind_some]
      rw [hw, hrd, i8_wrap _ (by omega)]
      by_cases hs : x / 256 = x / 9223372036854775808
      · rw [if_pos hs, if_pos (by omega), if_pos (by rw [hlen]; omega), if_neg]
        by_cases hx : 0 ≤ x
        · have h3 : x / 9223372036854775808 = 0 := by omega
          have h4 : ¬ (x % 256 < 128) := by omega
          rw [h3, if_neg h4, show wrap64 (x % 256 - 256) = x % 256 - 256 by unfold wrap64; omega]
          simp; omega
        · have h3 : x / 9223372036854775808 = -1 := by omega
          have h4 : (x % 256 < 128) := by omega
          rw [h3, if_pos h4, show wrap64 (x % 256) = x % 256 by unfold wrap64; omega]
          simp; omega
      · rw [if_neg hs]
theorem number_eq (x : Int) (h1 : -9223372036854775808 ≤ x) (h2 : x ≤ 9223372036854775807) : der_number.f 64 x = some (numN 7 x) := by
  have h := num_l0 7 x [] 56 (by omega) (by simp) (by simp; omega) (by simp; omega)
  simpa [der_number.f] using h
def digN : Nat → Int → List Int
  | 0, _ => []
  | k + 1, x => if 0 < x then digN k (x / 256) ++ [x % 256] else []
theorem len_end (acc : List Int) (x : Int) (h : ¬ (0 < x)) (hl : acc.length ≤ 8) (F : Nat) (hF : 6 ≤ F) : der_length.l0 (F + 1) x acc = some ((128 + (acc.length : Int)) % 256 :: acc.reverse) := by
  obtain ⟨G, rfl⟩ : ∃ G, F = G + 6 := ⟨F - 6, by omega⟩
  rw [der_length.l0, if_neg (by omega), if_pos (by omega), rev_short _ (by simp; omega)]
  simp
theorem len_l0 : ∀ (j : Nat) (x : Int) (acc : List Int) (F : Nat), 6 ≤ F → acc.length + j ≤ 8 → 0 ≤ x → x < 256 ^ j → der_length.l0 (F + j + 1) x acc = some ((128 + ((acc.length + (digN j x).length : Nat) : Int)) % 256 :: (digN j x ++ acc.reverse)) := by
  intro j
  induction j with
  | zero =>
    intro x acc F hF hl h1 h2
    rw [digN]
    have := len_end acc x (by simp at h2; omega) (by omega) F hF
    simpa using this
  | succ j ih =>
    intro x acc F hF hl h1 h2
    by_cases h : 0 < x
    · rw [digN, if_pos h]
      rw [Int.pow_succ] at h2
      have IH := ih (x / 256) (acc ++ [x % 256]) F hF (by simp; omega) (by omega) (by omega)
      rw [show F + (j + 1) + 1 = (F + j + 1) + 1 by omega, der_length.l0, if_pos h, if_pos (by omega), IH]
      simp
      omega
    · rw [digN, if_neg h]
      have := len_end acc x h (by omega) (F + (j + 1)) (by omega)
      simpa using this
def lenL (n : Nat) : List Int := if n < 128 then [(n : Int)] else (128 + ((digN 7 n).length : Int)) :: digN 7 n
theorem digN_len : ∀ (j : Nat) (x : Int), (digN j x).length ≤ j
  | 0, _ => by simp [digN]
  | j + 1, x => by
    rw [digN]
    split
    · have := digN_len j (x / 256); simp; omega
    · simp
theorem digN_len2 : ∀ (j k : Nat) (x : Int), x < 256 ^ j → (digN k x).length ≤ j := by
  intro j
  induction j with
  | zero =>
    intro k x h
    cases k with
    | zero => simp [digN]
    | succ k => rw [digN, if_neg (by simp at h; omega)]; simp
  | succ j ih =>
    intro k x h
    cases k with
    | zero => simp [digN]
    | succ k =>
      rw [digN]
      split
      · rw [Int.pow_succ] at h
        have := ih k (x / 256) (by omega)
        simp; omega
      · simp
theorem length_eq (n : Nat) (h : n < 70368744177664) : der_length.f 64 (n : Int) = some (lenL n) := by
  unfold der_length.f lenL
  by_cases h1 : n < 128
  · rw [if_pos (by omega), if_pos h1]; congr 2; omega
  · rw [if_neg (by omega), if_neg h1]
    have := len_l0 7 n [] 56 (by omega) (by simp) (by omega) (by simp; omega)
    have h2 := digN_len 7 n
    rw [show 56 + 7 + 1 = 64 by omega] at this
    rw [this]
    simp
    omega
theorem digN_be : ∀ (j : Nat) (x : Int), 0 ≤ x → x < 256 ^ j → numBE (digN j x) = x := by
  intro j
  induction j with
  | zero => intro x h0 h; simp at h; simp [digN, numBE]; omega
  | succ j ih =>
    intro x h0 h
    rw [digN]
    split
    · rw [Int.pow_succ] at h
      rw [numBE_snoc, ih (x / 256) (by omega) (by omega)]; omega
    · simp [numBE]; omega
theorem digN_bs : ∀ (j : Nat) (x : Int), Bs (digN j x)
  | 0, _ => by intro y hy; simp [digN] at hy
  | j + 1, x => by
    rw [digN]
    split
    · intro y hy
      rcases List.mem_append.1 hy with hy | hy
      · exact digN_bs j _ y hy
      · simp at hy; omega
    · intro y hy; simp at hy
theorem numN_bs : ∀ (j : Nat) (x : Int), Bs (numN j x)
  | 0, x => by intro y hy; simp [numN] at hy; omega
  | j + 1, x => by
    rw [numN]
    split
    · intro y hy; simp at hy; omega
    · intro y hy
      rcases List.mem_append.1 hy with hy | hy
      · exact numN_bs j _ y hy
      · simp at hy; omega
end Go.Proofs.Ytpphoifjhhidfaa.Der
