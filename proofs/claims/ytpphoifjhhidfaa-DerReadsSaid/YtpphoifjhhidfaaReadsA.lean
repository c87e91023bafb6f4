/- The document's size, value and Read told against ours: plain laws. -/
import Derived.Test.YtpphoifjhhidfaaGDerReadsx2
import Derived.Test.YtpphoifjhhidfaaRefTree
namespace Go.Proofs.Ytpphoifjhhidfaa.Reads
set_option linter.unusedVariables false
set_option linter.unusedSimpArgs false
open Go.RowKit Go.Proofs.Ytpphoifjhhidfaa.Der Go.Proofs.Ytpphoifjhhidfaa.GDerReads
open Go.Proofs.Ytpphoifjhhidfaa.GDerBytes (S35 rd_T35 z35)
open Go.Proofs.YtpphoifjhhidfaaW.PrintWords
open Go.Proofs.YtpphoifjhhidfaaW.PrintLast
theorem bt_str (b : List Int) (hb : Bs b) (i : Nat) : bt (strOfNums b) (i : Int) = b.getD i 0 := by
  rw [← rd_bytesOf, bytesOf_str b hb]; rfl
theorem str_extract (b : List Int) (i j : Nat) : (strOfNums b).extract i j = strOfNums ((b.take j).drop i) := by
  have h : ((strOfNums b).extract i j).data.toList = (strOfNums ((b.take j).drop i)).data.toList := by
    rw [ByteArray.data_extract, Array.toList_extract, strOfNums_data, strOfNums_data, List.map_drop, List.map_take, List.drop_take]
  generalize (strOfNums b).extract i j = x at *
  generalize strOfNums ((b.take j).drop i) = y at *
  obtain ⟨d⟩ := x
  obtain ⟨d'⟩ := y
  obtain ⟨l⟩ := d
  obtain ⟨l'⟩ := d'
  simp at h
  rw [h]
theorem str_nil_ne (b : List Int) : ((strOfNums b).toList != ([] : List UInt8)) = !b.isEmpty := by
  rw [strList]; cases b <;> rfl
theorem str_255 (b : List Int) (hb : Bs b) : (strOfNums b).toList = ([255] : List UInt8) ↔ b = [255] := by
  constructor
  · intro h
    have h2 : (strOfNums b).toList = (strOfNums [255]).toList := by rw [h, strList]; rfl
    exact strOf_inj hb (by intro x hx; simp at hx; omega) h2
  · rintro rfl
    rw [strList]; rfl
theorem w64 (x : Int) (h : -9223372036854775808 ≤ x ∧ x ≤ 9223372036854775807) : wrap64 x = x := by unfold wrap64; omega
theorem wrap_wrap (v g : Int) : wrap64 (wrap64 v + g) = wrap64 (v + g) := by
  unfold wrap64
  omega
/-! #### size -/
def sizeL (b : List Int) : Int × Int :=
  if b.length < 2 then (-1, 0)
  else if b.getD 1 0 < 128 then (b.getD 1 0, 1)
  else if b.getD 1 0 - 128 < 1 ∨ 3 < b.getD 1 0 - 128 ∨ (b.length : Int) < 2 + (b.getD 1 0 - 128) then (-1, 0)
  else (numBE ((b.drop 2).take (b.getD 1 0 - 128).toNat), 1 + (b.getD 1 0 - 128))
theorem getD_byte {b : List Int} (hb : Bs b) (i : Nat) : 0 ≤ b.getD i 0 ∧ b.getD i 0 ≤ 255 := by
  rw [List.getD_eq_getElem?_getD]
  rcases Nat.lt_or_ge i b.length with h | h
  · rw [List.getElem?_eq_getElem h]
    exact hb _ (List.getElem_mem h)
  · rw [List.getElem?_eq_none h]; simp
theorem numBE_three {s : List Int} (hs : Bs s) (hl : s.length ≤ 3) : 0 ≤ numBE s ∧ numBE s < 16777216 := by
  have h := numBE_bound s.length s rfl hs
  have h2 : (256 : Int) ^ s.length ≤ 16777216 := by
    have : s.length = 0 ∨ s.length = 1 ∨ s.length = 2 ∨ s.length = 3 := by omega
    rcases this with h | h | h | h <;> rw [h] <;> decide
  omega
theorem size_loop (b : List Int) (hb : Bs b) (hl : b.length ≤ 3000) (q : Nat) (hq : q ≤ 3) (h2 : 2 + q ≤ b.length) : ∀ (m j F : Nat), j + m = q → sluicewayref01_size.l0 (F + m + 1) (strOfNums b) (q : Int) (numBE ((b.drop 2).take j)) (j : Int) = some (numBE ((b.drop 2).take q), 1 + (q : Int)) := by
  intro m
  induction m with
  | zero =>
    intro j F h
    obtain rfl : j = q := by omega
    rw [sluicewayref01_size.l0, if_neg (by omega), w64 _ (by omega)]
  | succ m ih =>
    intro j F h
    have hsz : ((strOfNums b).size : Int) = b.length := by rw [strOf_size]
    have hr := numBE_three (s := (b.drop 2).take j) (fun x hx => hb x (List.mem_of_mem_drop (List.mem_of_mem_take hx))) (by rw [List.length_take]; omega)
    have hg := getD_byte hb (2 + j)
    rw [show F + (m + 1) + 1 = (F + m + 1) + 1 by omega, sluicewayref01_size.l0, if_pos (by omega), w64 (2 + (j : Int)) (by omega), if_pos (by omega), if_pos (by rw [hsz]; omega)]
    rw [show (2 + (j : Int)) = ((2 + j : Nat) : Int) by omega, bt_str b hb, w64 (b.getD (2 + j) 0) (by omega), w64 (numBE _ * 256) (by omega), w64 (numBE _ * 256 + _) (by omega), show wrap64 ((j : Int) + 1) = ((j + 1 : Nat) : Int) from w1 j (by omega)]
    have e : numBE ((b.drop 2).take j) * 256 + b.getD (2 + j) 0 = numBE ((b.drop 2).take (j + 1)) := by
      rw [take_getD (b.drop 2) j (by rw [List.length_drop]; omega), numBE_snoc]
      congr 1
      simp [List.getD_eq_getElem?_getD]
    rw [e]
    exact ih (j + 1) F (by omega)
theorem size_eq (b : List Int) (hb : Bs b) (hl : b.length ≤ 3000) (k : Nat) (hk : 6 ≤ k) : sluicewayref01_size.f k (strOfNums b) = some (sizeL b) := by
  have hsz : ((strOfNums b).size : Int) = b.length := by rw [strOf_size]
  have hg := getD_byte hb 1
  unfold sluicewayref01_size.f sizeL
  rw [hsz]
  by_cases h2 : b.length < 2
  · rw [if_pos (by omega), if_pos h2]
  rw [if_neg (by omega), if_neg h2, if_pos (by omega), show bt (strOfNums b) 1 = b.getD 1 0 from bt_str b hb 1, w64 _ (by omega)]
  by_cases h128 : b.getD 1 0 < 128
  · rw [if_pos h128, if_pos h128]
  rw [if_neg h128, if_neg h128, w64 (b.getD 1 0 - 128) (by omega)]
  obtain ⟨q, hq⟩ : ∃ q : Nat, b.getD 1 0 - 128 = (q : Int) := ⟨(b.getD 1 0 - 128).toNat, by omega⟩
  rw [hq, w64 (2 + (q : Int)) (by omega)]
  obtain ⟨k, rfl⟩ : ∃ m, k = m + 1 := ⟨k - 1, by omega⟩
  have hj : ∀ v : Bool, sluicewayref01_size.j0 (k + 1) (strOfNums b) (q : Int) v = if v = true then some (-1, 0) else sluicewayref01_size.l0 k (strOfNums b) (q : Int) 0 0 := fun v => by rw [sluicewayref01_size.j0]
  by_cases c1 : (q : Int) < 1
  · rw [if_pos c1, hj, if_pos rfl, if_pos (.inl c1)]
  rw [if_neg c1]
  by_cases c2 : (q : Int) > 3
  · rw [if_pos c2, hj, if_pos rfl, if_pos (.inr (.inl c2))]
  rw [if_neg c2, hj]
  by_cases c3 : (b.length : Int) < 2 + (q : Int)
  · rw [if_pos (by simpa using c3), if_pos (.inr (.inr c3))]
  · rw [if_neg (by simpa using c3), if_neg (by rintro (h | h | h) <;> omega)]
    have h := size_loop b hb hl q (by omega) (by omega) q 0 (k - q - 1) (by omega)
    rw [show k - q - 1 + q + 1 = k by omega] at h
    exact h
theorem sizeL_node (x : Int) (c rest : List Int) (hc : c.length < 16777216) : sizeL (x :: (lenL c.length ++ c) ++ rest) = ((c.length : Int), ((lenL c.length).length : Int)) := by
  unfold sizeL
  by_cases h1 : c.length < 128
  · have e : lenL c.length = [(c.length : Int)] := by rw [lenL, if_pos h1]
    rw [e, if_neg (by simp), show (x :: ([(c.length : Int)] ++ c) ++ rest).getD 1 0 = (c.length : Int) from rfl, if_pos (by omega)]
    rfl
  · have e : lenL c.length = (128 + ((digN 7 c.length).length : Int)) :: digN 7 c.length := by rw [lenL, if_neg h1]
    have hm1 := digN_pos 6 (c.length : Int) (by omega)
    have hm2 := digN_len2 3 7 (c.length : Int) (by simp; omega)
    have hbe := digN_be 7 (c.length : Int) (by omega) (by simp; omega)
    rw [e]
    generalize digN 7 (c.length : Int) = D at *
    rw [if_neg (by simp), show (x :: ((128 + (D.length : Int)) :: D ++ c) ++ rest).getD 1 0 = 128 + (D.length : Int) from rfl, if_neg (by omega), if_neg (by simp; omega), show (128 + (D.length : Int) - 128).toNat = D.length by omega]
    rw [show ((x :: ((128 + (D.length : Int)) :: D ++ c) ++ rest).drop 2).take D.length = D by simp, hbe]
    simp; omega
theorem sizeL_pos {b : List Int} (hb : Bs b) (h : ¬ (sizeL b).1 < 0) : 0 ≤ (sizeL b).1 ∧ (sizeL b).1 < 16777216 ∧ 1 ≤ (sizeL b).2 ∧ (sizeL b).2 ≤ 4 ∧ 2 ≤ b.length := by
  have hg := getD_byte hb 1
  unfold sizeL at h ⊢
  split at h
  · simp at h
  rename_i h2
  rw [if_neg h2]
  split at h
  · rename_i h3
    rw [if_pos h3]
    simp only
    omega
  rename_i h3
  rw [if_neg h3]
  split at h
  · simp at h
  rename_i h4
  rw [if_neg h4]
  have hr := numBE_three (s := (b.drop 2).take (b.getD 1 0 - 128).toNat) (fun x hx => hb x (List.mem_of_mem_drop (List.mem_of_mem_take hx))) (by rw [List.length_take]; omega)
  simp only
  omega
/-! #### value -/
theorem value_loop (c : List Int) (hc : Bs c) (hl : c.length ≤ 8) : ∀ (m j F : Nat), j + m = c.length → sluicewayref01_value.l0 (F + m + 1) (strOfNums c) (valL (c.take j)) (j : Int) = some (valL c) := by
  intro m
  induction m with
  | zero =>
    intro j F h
    obtain rfl : j = c.length := by omega
    rw [sluicewayref01_value.l0, if_neg (by rw [strOf_size]; omega), List.take_length]
  | succ m ih =>
    intro j F h
    have hg := getD_byte hc j
    have hbt : Bs (c.take j) := fun x hx => hc x (List.mem_of_mem_take hx)
    have hr := valL_range (c.take j) hbt
    rw [show F + (m + 1) + 1 = (F + m + 1) + 1 by omega, sluicewayref01_value.l0, if_pos (by rw [strOf_size]; omega), if_pos (by omega), bt_str c hc, w64 (c.getD j 0) (by omega), show wrap64 ((j : Int) + 1) = ((j + 1 : Nat) : Int) from w1 j (by omega)]
    have htk := take_getD c j (by omega)
    by_cases h0 : j = 0
    · subst h0
      rw [if_pos (show ((0 : Nat) : Int) = 0 from rfl)]
      have e1 : valL (c.take 0) = 0 := rfl
      have e2 : valL (c.take (0 + 1)) = if c.getD 0 0 < 128 then c.getD 0 0 else c.getD 0 0 - 256 := by rw [htk]; rfl
      rw [e1, w64 (0 * 256) (by omega)]
      by_cases h1 : c.getD 0 0 > 127
      · rw [if_pos h1, w64 (c.getD 0 0 - 256) (by omega), w64 (0 * 256 + (c.getD 0 0 - 256)) (by omega)]
        have := ih (0 + 1) F (by omega)
        rw [e2, if_neg (by omega)] at this
        rw [show (0 : Int) * 256 + (c.getD 0 0 - 256) = c.getD 0 0 - 256 by omega]
        exact this
      · rw [if_neg h1, w64 (0 * 256 + c.getD 0 0) (by omega)]
        have := ih (0 + 1) F (by omega)
        rw [e2, if_pos (by omega)] at this
        rw [show (0 : Int) * 256 + c.getD 0 0 = c.getD 0 0 by omega]
        exact this
    · rw [if_neg (by omega)]
      have hne : c.take j ≠ [] := by
        intro h1
        have := congrArg List.length h1
        rw [List.length_take, List.length_nil] at this
        omega
      have e : wrap64 (wrap64 (valL (c.take j) * 256) + c.getD j 0) = valL (c.take (j + 1)) := by
        rw [htk, valL_snoc _ _ hne, wrap_wrap]
      rw [e]
      exact ih (j + 1) F (by omega)
theorem value_eq (c : List Int) (hc : Bs c) (hl : c.length ≤ 8) (k : Nat) (hk : 9 ≤ k) : sluicewayref01_value.f k (strOfNums c) = some (valL c) := by
  have h := value_loop c hc hl c.length 0 (k - c.length - 1) (by omega)
  rw [show k - c.length - 1 + c.length + 1 = k by omega] at h
  exact h
end Go.Proofs.Ytpphoifjhhidfaa.Reads

namespace Go.Proofs.Ytpphoifjhhidfaa.Reads
set_option linter.unusedVariables false
set_option linter.unusedSimpArgs false
open Go.RowKit Go.Proofs.Ytpphoifjhhidfaa.Der Go.Proofs.Ytpphoifjhhidfaa.GDerReads
open Go.Proofs.Ytpphoifjhhidfaa.GDerBytes (S35 rd_T35 z35)
open Go.Proofs.YtpphoifjhhidfaaW.PrintWords
open Go.Proofs.YtpphoifjhhidfaaW.PrintLast
abbrev R7 : Type := Int × Int × ByteArray × Int × (List S35) × Int × Bool
def zero7 : R7 := (0, 0, ⟨#[]⟩, 0, [], 0, false)
def ok7 (t : S24) (m : Nat) : R7 := (t.f0, t.f1, t.f2, t.f3, cvL t.f4, (m : Int), true)
def GoodM (l : Nat) (t : S24) (b : List Int) (m : Nat) : Prop := m ≤ b.length ∧ rightT t l = true ∧ rngT t ∧ wrO t = some (b.take m)
def RdSpec (l : Nat) (b : List Int) (r : Option R7) : Prop := (∃ t m, r = some (ok7 t m) ∧ GoodM l t b m ∧ wtT t + 1 ≤ m) ∨ (r = some zero7 ∧ ∀ t m, ¬ GoodM l t b m)
def FU (l : Nat) : Nat := (l + 1) * 7000
theorem FU_succ (l : Nat) : FU (l + 1) = FU l + 7000 := by unfold FU; omega
theorem FU_zero : FU 0 = 7000 := rfl
def PRd (l : Nat) : Prop := ∀ b : List Int, Bs b → b.length ≤ 3000 → ∀ k : Nat, FU l ≤ k → RdSpec l b (sluicewayref01_Read.f k (strOfNums b) (l : Int))
theorem good_uniq {l : Nat} {t t' : S24} {b : List Int} {m m' : Nat} (hl : b.length ≤ 3000) (h : GoodM l t b m) (h' : GoodM l t' b m') : t = t' ∧ m = m' := by
  obtain ⟨h1, h2, h3, h4⟩ := h
  obtain ⟨h1', h2', h3', h4'⟩ := h'
  have e := (wr_rd t l (b.take m) (b.drop m) h2 h3 h4 (by rw [List.length_take]; omega)).1
  have e' := (wr_rd t' l (b.take m') (b.drop m') h2' h3' h4' (by rw [List.length_take]; omega)).1
  rw [List.take_append_drop] at e e'
  rw [e] at e'
  simp only [Option.some.injEq, Prod.mk.injEq] at e'
  have := congrArg List.length e'.2
  simp at this
  exact ⟨e'.1, by omega⟩
/-! #### weights -/
theorem wrL_acc : ∀ (ts : List S24) (acc out : List Int), wrL ts acc = some out → ∃ c, out = acc ++ c ∧ ∀ acc' : List Int, acc'.length + c.length < 70368744177664 → wrL ts acc' = some (acc' ++ c)
  | [], acc, out, h => by
    rw [wrL] at h
    obtain rfl := Option.some.inj h
    exact ⟨[], by simp, fun acc' _ => by rw [wrL]; simp⟩
  | t :: r, acc, out, h => by
    rw [wrL] at h
    obtain ⟨x, hx, h⟩ := Option.bind_eq_some_iff.mp h
    split at h
    · obtain ⟨c, rfl, hc⟩ := wrL_acc r _ out h
      refine ⟨x ++ c, by simp, fun acc' ha => ?_⟩
      simp at ha
      rw [wrL, hx, Option.bind_some, if_pos (by omega), hc (acc' ++ x) (by simp; omega)]
      simp
    · cases h
def WtLe (t : S24) : Prop := ∀ (l : Nat) (b : List Int), rightT t l = true → wrO t = some b → wtT t + 1 ≤ b.length
def WtLeL (ts : List S24) : Prop := ∀ (l : Nat) (acc out : List Int), rightL ts l = true → wrL ts acc = some out → wtL ts + acc.length ≤ out.length
theorem wtle_of (k n : Int) (s : ByteArray) (g : Int) (ts : List S24) (IH : WtLeL ts) : WtLe ⟨k, n, s, g, ts⟩ := by
  intro l b hr h
  rw [wrO] at h
  obtain ⟨c, hc, h⟩ := Option.bind_eq_some_iff.mp h
  obtain ⟨hk, rfl⟩ := head_inv h
  have h1 := lenL_pos c.length
  suffices hs : s.size + wtL ts ≤ c.length by
    rw [wtT]; simp; omega
  rw [rightT] at hr
  split at hr
  · cases hr
  rw [contF] at hc
  have hnil : ts.isEmpty = true → wtL ts = 0 := by intro h; rw [List.isEmpty_iff.1 h, wtL]
  have hse : s.toList = [] → s.size = 0 := by intro h; rw [str_empty h]; rfl
  split at hr
  · simp only [Bool.and_eq_true, beq_iff_eq] at hr
    rw [hnil hr.2, hse hr.1]; omega
  rename_i k1
  rw [if_neg k1] at hc
  split at hr
  · simp only [Bool.and_eq_true, beq_iff_eq] at hr
    rw [hnil hr.2.1, hse hr.1]; omega
  rename_i k4
  rw [if_neg k4] at hc
  split at hr
  · rename_i k2
    simp only [Bool.and_eq_true] at hr
    rw [if_pos (.inl k2)] at hc
    split at hc
    · obtain rfl := Option.some.inj hc
      rw [hnil hr.2, bytesOf_length]; omega
    · cases hc
  rename_i k2
  split at hr
  · rename_i k3
    simp only [Bool.and_eq_true] at hr
    rw [if_pos (.inr k3)] at hc
    split at hc
    · obtain rfl := Option.some.inj hc
      rw [hnil hr.2.1, bytesOf_length]; omega
    · cases hc
  rename_i k3
  simp only [Bool.and_eq_true, beq_iff_eq] at hr
  rw [if_neg (by simp [k2, k3])] at hc
  have := IH (l - 1) [] c hr.2.2 hc
  rw [hse hr.2.1]
  simpa using this
mutual
theorem wtle : ∀ t : S24, WtLe t
  | ⟨k, n, s, g, ts⟩ => wtle_of k n s g ts (wtleL ts)
theorem wtleL : ∀ ts : List S24, WtLeL ts
  | [] => by
    intro l acc out _ h
    rw [wrL] at h
    obtain rfl := Option.some.inj h
    rw [wtL]; omega
  | t :: r => by
    intro l acc out hr h
    rw [rightL, Bool.and_eq_true] at hr
    rw [wrL] at h
    obtain ⟨x, hx, h⟩ := Option.bind_eq_some_iff.mp h
    split at h
    · have h1 := wtle t l x hr.1 hx
      have h2 := wtleL r l _ out hr.2 h
      simp at h2
      rw [wtL]; omega
    · cases h
end
/-! #### the last test -/
def finR (b : List Int) (all : Nat) (t : S24) : R7 := if shT t = true ∧ wrO t = some (b.take all) then ok7 t all else zero7
theorem j3_fin (b : List Int) (hb : Bs b) (hl : b.length ≤ 3000) (all : Nat) (ha : all ≤ b.length) (n kk : Int) (hn : 0 ≤ n) (hk : 0 ≤ kk) (he : 1 + kk + n = all) (x1 : Int) (x9 : ByteArray) (t : S24) (hg : rngT t) (hw : wtT t ≤ 4000) (l : Nat) (hd : dpT t ≤ l) (k : Nat) :
    sluicewayref01_Read.j3 (k + 1) (strOfNums b) x1 n kk x9 false t.f0 t.f1 t.f2 t.f3 (cvL t.f4) = some (finR b all t) := by
  have hsz : ((strOfNums b).size : Int) = b.length := by rw [strOf_size]
  have hsh : sluicewayref01_shape.f t.f0 t.f1 t.f2 t.f3 (cvL t.f4) = some (shT t) := sh_eq t (by omega) 8388608 (by omega)
  rw [sluicewayref01_Read.j3, if_neg (by simp), hsh, Option.bind_some]
  unfold finR
  by_cases hs : shT t = true
  · have hr : rightT t l = true := by rw [right_iff, hs, decide_eq_true hd]; rfl
    obtain ⟨w, h1, h2, h3, h4⟩ := wrok t l hr hg (by omega)
    have hwr : sluicewayref01_Written.f t.f0 t.f1 t.f2 t.f3 (cvL t.f4) = some (strOfNums w) := wf_eq t (by omega) l w hr hg h1 (by omega) 8388608 (by omega)
    rw [if_pos hs, hwr, Option.bind_some, w64 (1 + kk) (by omega), w64 (1 + kk + n) (by omega), he, if_pos (by omega), if_pos (by omega), Int.toNat_natCast, str_extract, List.drop_zero, h1]
    by_cases hq : w = b.take all
    · rw [if_pos (by rw [hq]), if_pos ⟨hs, by rw [hq]⟩]; rfl
    · rw [if_neg (fun h => hq (strOf_inj h4 (fun x hx => hb x (List.mem_of_mem_take hx)) h)), if_neg (fun h => hq (Option.some.inj h.2))]; rfl
  · rw [if_neg hs, if_neg (fun h => hs h.1)]; rfl
theorem fin_good {b : List Int} {all l : Nat} {t : S24} (ha : all ≤ b.length) (hg : rngT t) (hd : dpT t ≤ l) (h : finR b all t ≠ zero7) : GoodM l t b all := by
  unfold finR at h
  split at h
  · rename_i hc
    refine ⟨ha, ?_, hg, hc.2⟩
    rw [right_iff, hc.1, decide_eq_true hd]; rfl
  · exact absurd rfl h
theorem good_fin {b : List Int} {m l : Nat} {t : S24} (h : GoodM l t b m) : finR b m t = ok7 t m := by
  have hr := h.2.1
  rw [right_iff, Bool.and_eq_true] at hr
  unfold finR
  rw [if_pos ⟨hr.2, h.2.2.2⟩]
/-! #### kids -/
theorem dpL_right (ts : List S24) (l : Nat) (h : rightL ts l = true) : dpL ts ≤ l := by
  rw [right_iffL, Bool.and_eq_true] at h
  simpa using h.1
theorem dp_node (kind : Int) (tag : Int) (ts : List S24) (l : Nat) (h : rightL ts l = true) : dpT ⟨kind, 0, e0, tag, ts⟩ ≤ l + 1 := by
  rw [dpT]; have := dpL_right ts l h; omega
theorem wt_node (kind : Int) (tag : Int) (ts : List S24) : wtT ⟨kind, 0, e0, tag, ts⟩ = 1 + wtL ts := by
  rw [wtT]; simp [e0_size]
theorem wtL_app : ∀ a b : List S24, wtL (a ++ b) = wtL a + wtL b
  | [], b => by rw [List.nil_append, wtL]; omega
  | t :: r, b => by rw [List.cons_append, wtL, wtL, wtL_app r b]; omega
theorem rightL_app (l : Nat) : ∀ a b : List S24, rightL (a ++ b) l = (rightL a l && rightL b l)
  | [], b => by rw [List.nil_append, rightL, Bool.true_and]
  | t :: r, b => by rw [List.cons_append, rightL, rightL, rightL_app l r b, Bool.and_assoc]
theorem wtL_len : ∀ ts : List S24, ts.length ≤ wtL ts
  | [] => by simp
  | t :: r => by rw [wtL, List.length_cons]; have := wtL_len r; have := wtT_pos t; omega
structure Env (b : List Int) (all : Nat) (n kk : Int) : Prop where
  hb : Bs b
  hl : b.length ≤ 3000
  ha : all ≤ b.length
  hn : 0 ≤ n
  hk : 0 ≤ kk
  he : 1 + kk + n = all
theorem loop_end {b : List Int} {all : Nat} {n kk : Int} (E : Env b all n kk) (l : Nat) (hll : l ≤ 19) (kind tag : Int) (hkd : 4 < kind) (ts : List S24) (hr : rightL ts l = true) (hg : rngL ts) (hw : wtL ts ≤ 3000) (k : Nat) (hk : 2 ≤ k) :
    sluicewayref01_Read.l0 k (strOfNums b) ((l + 1 : Nat) : Int) n kk (strOfNums []) kind 0 ⟨#[]⟩ tag (cvL ts) = some (finR b all ⟨kind, 0, e0, tag, ts⟩) := by
  obtain ⟨k, rfl⟩ : ∃ m, k = m + 2 := ⟨k - 2, by omega⟩
  rw [sluicewayref01_Read.l0, if_pos (by omega), str_nil_ne]
  exact j3_fin b E.hb E.hl all E.ha n kk E.hn E.hk E.he _ _ ⟨kind, 0, e0, tag, ts⟩ (rng_leaf _ _ _ _ _ (by omega) hg) (by rw [wt_node]; omega) (l + 1) (dp_node _ _ _ _ hr) k
theorem loop_step {b : List Int} {all : Nat} {n kk : Int} (E : Env b all n kk) (l : Nat) (hll : l ≤ 19) (H : PRd l) (kind tag : Int) (hkd : 4 < kind) (ts : List S24) (hw : wtL ts ≤ 3000) (c : List Int) (hc : Bs c) (hcl : c.length ≤ 3000) (hne : c ≠ []) (k : Nat) (hk : FU l + 2 ≤ k) :
    (∃ t m, GoodM l t c m ∧ wtT t + 1 ≤ m ∧ sluicewayref01_Read.l0 k (strOfNums b) ((l + 1 : Nat) : Int) n kk (strOfNums c) kind 0 ⟨#[]⟩ tag (cvL ts) = sluicewayref01_Read.l0 (k - 2) (strOfNums b) ((l + 1 : Nat) : Int) n kk (strOfNums (c.drop m)) kind 0 ⟨#[]⟩ tag (cvL (ts ++ [t]))) ∨
    ((∀ t m, ¬ GoodM l t c m) ∧ sluicewayref01_Read.l0 k (strOfNums b) ((l + 1 : Nat) : Int) n kk (strOfNums c) kind 0 ⟨#[]⟩ tag (cvL ts) = some zero7) := by
  obtain ⟨k, rfl⟩ : ∃ m, k = m + 2 := ⟨k - 2, by omega⟩
  have hem : (!c.isEmpty) = true := by cases c with | nil => exact absurd rfl hne | cons _ _ => rfl
  have hlen := wtL_len ts
  rw [sluicewayref01_Read.l0, if_pos (by omega), str_nil_ne, hem, sluicewayref01_Read.j3, if_pos rfl, show wrap64 (((l + 1 : Nat) : Int) - 1) = (l : Int) by unfold wrap64; omega]
  rcases H c hc hcl k (by omega) with ⟨t, m, h1, h2, h3⟩ | ⟨h1, h2⟩
  · refine .inl ⟨t, m, h2, h3, ?_⟩
    have ec : (⟨t.f0, t.f1, t.f2, t.f3, cvL t.f4⟩ : S35) = cvT t := by cases t; rw [cvT]
    rw [h1, show (some (ok7 t m) : Option R7) = some (t.f0, t.f1, t.f2, t.f3, cvL t.f4, (m : Int), true) from rfl, Option.bind_some]
    dsimp only
    have hm := h2.1
    rw [if_pos rfl, if_pos (by rw [cvL_len]; omega), if_pos (by omega), if_pos (by rw [strOf_size]; omega), ec, Int.toNat_natCast, strOf_size, str_extract, List.take_length, Nat.add_sub_cancel, cvL_app, cvL, cvL]
  · refine .inr ⟨h2, ?_⟩
    rw [h1, show (some zero7 : Option R7) = some (0, 0, ⟨#[]⟩, 0, [], 0, false) from rfl, Option.bind_some]
    dsimp only
    rw [if_neg (by simp)]
theorem loopB {b : List Int} {all : Nat} {n kk : Int} (E : Env b all n kk) (l : Nat) (hll : l ≤ 19) (H : PRd l) (kind tag : Int) (hkd : 4 < kind) : ∀ (N : Nat) (c : List Int) (ts : List S24), c.length ≤ N → Bs c → rightL ts l = true → rngL ts → wtL ts + c.length ≤ 3000 → ∀ k : Nat, FU l + 2 * c.length + 2 ≤ k →
    ∃ r, sluicewayref01_Read.l0 k (strOfNums b) ((l + 1 : Nat) : Int) n kk (strOfNums c) kind 0 ⟨#[]⟩ tag (cvL ts) = some r ∧ (r = zero7 ∨ ∃ t0, r = finR b all t0 ∧ rngT t0 ∧ dpT t0 ≤ l + 1) := by
  intro N
  induction N with
  | zero =>
    intro c ts hN hc hr hg hw k hk
    obtain rfl : c = [] := List.length_eq_zero_iff.1 (by omega)
    exact ⟨_, loop_end E l hll kind tag hkd ts hr hg (by simp at hw; omega) k (by omega), .inr ⟨_, rfl, rng_leaf _ _ _ _ _ (by omega) hg, dp_node _ _ _ _ hr⟩⟩
  | succ N ih =>
    intro c ts hN hc hr hg hw k hk
    by_cases hne : c = []
    · subst hne
      exact ⟨_, loop_end E l hll kind tag hkd ts hr hg (by simp at hw; omega) k (by omega), .inr ⟨_, rfl, rng_leaf _ _ _ _ _ (by omega) hg, dp_node _ _ _ _ hr⟩⟩
    · have hpos : 0 < c.length := List.length_pos_iff.2 hne
      rcases loop_step E l hll H kind tag hkd ts (by omega) c hc (by omega) hne k (by omega) with ⟨t, m, h1, h2, h3⟩ | ⟨_, h3⟩
      · have hm := h1.1
        have hwp := wtT_pos t
        rw [h3]
        refine ih (c.drop m) (ts ++ [t]) (by rw [List.length_drop]; omega) (fun x hx => hc x (List.mem_of_mem_drop hx)) ?_ ?_ ?_ (k - 2) (by rw [List.length_drop]; omega)
        · rw [rightL_app, hr, rightL, rightL, h1.2.1]; rfl
        · exact rngL_app _ _ hg (by rw [rngL, rngL]; exact ⟨h1.2.2.1, trivial⟩)
        · rw [wtL_app, wtL, wtL, List.length_drop]; omega
      · exact ⟨_, h3, .inl rfl⟩
theorem loopA {b : List Int} {all : Nat} {n kk : Int} (E : Env b all n kk) (l : Nat) (hll : l ≤ 19) (H : PRd l) (kind tag : Int) (hkd : 4 < kind) : ∀ (ts1 : List S24) (c : List Int) (ts : List S24), Bs c → c.length ≤ 3000 → rightL ts l = true → rngL ts → wtL ts + c.length ≤ 3000 → rightL ts1 l = true → rngL ts1 → wrL ts1 [] = some c → ∀ k : Nat, FU l + 2 * c.length + 2 ≤ k →
    sluicewayref01_Read.l0 k (strOfNums b) ((l + 1 : Nat) : Int) n kk (strOfNums c) kind 0 ⟨#[]⟩ tag (cvL ts) = some (finR b all ⟨kind, 0, e0, tag, ts ++ ts1⟩)
  | [], c, ts, hc, hcl, hr, hg, hw, hr1, hg1, h, k, hk => by
    rw [wrL] at h
    obtain rfl := Option.some.inj h
    rw [List.append_nil]
    exact loop_end E l hll kind tag hkd ts hr hg (by simp at hw; omega) k (by omega)
  | t :: r, c, ts, hc, hcl, hr, hg, hw, hr1, hg1, h, k, hk => by
    rw [rightL, Bool.and_eq_true] at hr1
    rw [rngL] at hg1
    rw [wrL] at h
    obtain ⟨x, hx, h⟩ := Option.bind_eq_some_iff.mp h
    rw [List.nil_append] at h
    split at h
    · obtain ⟨c1, rfl, hc1⟩ := wrL_acc r x c h
      have hwx := wtle t l x hr1.1 hx
      have hxp := wtT_pos t
      have hgm : GoodM l t (x ++ c1) x.length := ⟨by simp, hr1.1, hg1.1, by rw [List.take_left]; exact hx⟩
      have hne : x ++ c1 ≠ [] := by
        intro h0
        have := congrArg List.length h0
        rw [List.length_append, List.length_nil] at this; omega
      rcases loop_step E l hll H kind tag hkd ts (by omega) (x ++ c1) hc hcl hne k (by omega) with ⟨t', m, h1, h2, h3⟩ | ⟨h2, _⟩
      · obtain ⟨rfl, rfl⟩ := good_uniq hcl h1 hgm
        rw [h3, List.drop_left]
        simp only [List.length_append] at hw hk hcl
        have := loopA E l hll H kind tag hkd r c1 (ts ++ [t']) (fun y hy => hc y (by simp [hy])) (by omega) (by rw [rightL_app, hr, rightL, rightL, hr1.1]; rfl) (rngL_app _ _ hg (by rw [rngL, rngL]; exact ⟨hg1.1, trivial⟩)) (by rw [wtL_app, wtL, wtL]; omega) hr1.2 hg1.2 (by have := hc1 [] (by simp; omega); simpa using this) (k - 2) (by omega)
        rw [this]
        simp
      · exact absurd hgm (h2 _ _)
    · cases h
end Go.Proofs.Ytpphoifjhhidfaa.Reads

namespace Go.Proofs.Ytpphoifjhhidfaa.Reads
set_option linter.unusedVariables false
set_option linter.unusedSimpArgs false
open Go.RowKit Go.Proofs.Ytpphoifjhhidfaa.Der Go.Proofs.Ytpphoifjhhidfaa.GDerReads
open Go.Proofs.Ytpphoifjhhidfaa.GDerBytes (S35 rd_T35 z35)
open Go.Proofs.YtpphoifjhhidfaaW.PrintWords
open Go.Proofs.YtpphoifjhhidfaaW.PrintLast
theorem kinds (l : Nat) (k n : Int) (s : ByteArray) (g : Int) (ts : List S24) (c : List Int) (hr : rightT ⟨k, n, s, g, ts⟩ (l + 1) = true) (hg : rngT ⟨k, n, s, g, ts⟩) (hc : contF k n s (wrL ts []) = some c) (x : Int) (hx : x = (identL k + g % 256) % 256) :
    (x = 2 ∧ (⟨k, n, s, g, ts⟩ : S24) = ⟨1, valL c, e0, 0, []⟩ ∧ c.length ≤ 8) ∨ (x = 1 ∧ ((c = [255] ∧ (⟨k, n, s, g, ts⟩ : S24) = ⟨4, 1, e0, 0, []⟩) ∨ (c ≠ [255] ∧ (⟨k, n, s, g, ts⟩ : S24) = ⟨4, 0, e0, 0, []⟩))) ∨ (x = 4 ∧ (⟨k, n, s, g, ts⟩ : S24) = ⟨2, 0, strOfNums c, 0, []⟩) ∨ (x = 12 ∧ (⟨k, n, s, g, ts⟩ : S24) = ⟨3, 0, strOfNums c, 0, []⟩) ∨
    (x = 48 ∧ (⟨k, n, s, g, ts⟩ : S24) = ⟨5, 0, e0, 0, ts⟩ ∧ rightL ts l = true ∧ rngL ts ∧ wrL ts [] = some c) ∨ (160 ≤ x ∧ x ≤ 190 ∧ (⟨k, n, s, g, ts⟩ : S24) = ⟨6, 0, e0, x - 160, ts⟩ ∧ rightL ts l = true ∧ rngL ts ∧ wrL ts [] = some c) := by
  rw [rightT] at hr
  rw [rngT] at hg
  split at hr
  · cases hr
  rename_i hbad
  simp only [not_or, not_and] at hbad
  rw [contF] at hc
  split at hr
  · rename_i h1
    subst h1
    have hg0 : g = 0 := by omega
    subst hg0
    simp only [Bool.and_eq_true, beq_iff_eq, List.isEmpty_iff] at hr
    rw [if_pos rfl, number_eq n hg.1.1 hg.1.2] at hc
    obtain rfl := Option.some.inj hc
    have hv : valL (numN 7 n) = n := val_num 7 n (by omega) (by simp; omega) (by simp; omega)
    have hl := numN_len 7 n
    refine .inl ⟨by rw [hx]; decide, ?_, by omega⟩
    rw [hv, str_empty hr.1, hr.2]
  rename_i h1
  rw [if_neg h1] at hc
  split at hr
  · rename_i h4
    subst h4
    have hg0 : g = 0 := by omega
    subst hg0
    rw [if_pos rfl] at hc
    obtain rfl := Option.some.inj hc
    simp only [Bool.and_eq_true, Bool.or_eq_true, beq_iff_eq, List.isEmpty_iff] at hr
    obtain ⟨h5, h6, h7⟩ := hr
    refine .inr (.inl ⟨by rw [hx]; decide, ?_⟩)
    rcases h7 with rfl | rfl
    · refine .inr ⟨by rw [show wrap64 (-0) % 256 = 0 by unfold wrap64; decide]; decide, by rw [str_empty h5, h6]⟩
    · refine .inl ⟨by rw [show wrap64 (-1) % 256 = 255 by unfold wrap64; decide], by rw [str_empty h5, h6]⟩
  rename_i h4
  rw [if_neg h4] at hc
  split at hr
  · rename_i h2
    subst h2
    have hg0 : g = 0 := by omega
    subst hg0
    rw [if_pos (.inl rfl)] at hc
    simp only [Bool.and_eq_true, beq_iff_eq, List.isEmpty_iff] at hr
    split at hc
    · obtain rfl := Option.some.inj hc
      exact .inr (.inr (.inl ⟨by rw [hx]; decide, by rw [str_bytes, hr.1, hr.2]⟩))
    · cases hc
  rename_i h2
  split at hr
  · rename_i h3
    subst h3
    have hg0 : g = 0 := by omega
    subst hg0
    rw [if_pos (.inr rfl)] at hc
    simp only [Bool.and_eq_true, beq_iff_eq, List.isEmpty_iff] at hr
    split at hc
    · obtain rfl := Option.some.inj hc
      exact .inr (.inr (.inr (.inl ⟨by rw [hx]; decide, by rw [str_bytes, hr.1, hr.2.1]⟩)))
    · cases hc
  rename_i h3
  rw [if_neg (by simp [h2, h3])] at hc
  simp only [Bool.and_eq_true, beq_iff_eq] at hr
  obtain ⟨h5, h6, h7⟩ := hr
  have h56 : k = 5 ∨ k = 6 := by omega
  rcases h56 with rfl | rfl
  · have hg0 : g = 0 := by omega
    subst hg0
    exact .inr (.inr (.inr (.inr (.inl ⟨by rw [hx]; decide, by rw [str_empty h6, h5], h7, hg.2, hc⟩))))
  · have hxg : x = 160 + g := by rw [hx, identL_6]; omega
    exact .inr (.inr (.inr (.inr (.inr ⟨by omega, by omega, by rw [str_empty h6, h5, show x - 160 = g by omega], h7, hg.2, hc⟩))))
theorem good_cut {l : Nat} {b : List Int} {k n : Int} {s : ByteArray} {g : Int} {ts : List S24} {m : Nat} (hl : b.length ≤ 3000) (h : GoodM l ⟨k, n, s, g, ts⟩ b m) : ∃ c : List Int, contF k n s (wrL ts []) = some c ∧ b.take m = (identL k + g % 256) % 256 :: (lenL c.length ++ c) ∧ c.length < 16777216 ∧
    b = (identL k + g % 256) % 256 :: (lenL c.length ++ c) ++ b.drop m ∧ sizeL b = ((c.length : Int), ((lenL c.length).length : Int)) ∧ 1 + ((lenL c.length).length : Int) + (c.length : Int) = m := by
  obtain ⟨h1, h2, h3, h4⟩ := h
  rw [wrO] at h4
  obtain ⟨c, hc, h4⟩ := Option.bind_eq_some_iff.mp h4
  obtain ⟨_, h5⟩ := head_inv h4
  have hlen := congrArg List.length h5
  rw [List.length_take] at hlen
  simp at hlen
  have hcl : c.length < 16777216 := by omega
  have h6 : b = (identL k + g % 256) % 256 :: (lenL c.length ++ c) ++ b.drop m := by
    rw [← h5, List.take_append_drop]
  refine ⟨c, hc, h5, hcl, h6, ?_, by omega⟩
  rw [h6]
  exact sizeL_node _ c _ hcl
def Res (l : Nat) (b : List Int) (r : R7) : Prop := (r = zero7 ∨ ∃ t0 all, r = finR b all t0 ∧ all ≤ b.length ∧ rngT t0 ∧ dpT t0 ≤ l) ∧ ∀ t m, GoodM l t b m → r = finR b m t
theorem res_spec {l : Nat} {b : List Int} {r : R7} (h : Res l b r) : RdSpec l b (some r) := by
  obtain ⟨h1, h2⟩ := h
  by_cases hg : ∃ t m, GoodM l t b m
  · obtain ⟨t, m, hg⟩ := hg
    refine .inl ⟨t, m, by rw [h2 t m hg, good_fin hg], hg, ?_⟩
    have := wtle t l _ hg.2.1 hg.2.2.2
    rw [List.length_take] at this
    omega
  · refine .inr ⟨?_, fun t m h => hg ⟨t, m, h⟩⟩
    rcases h1 with rfl | ⟨t0, all, h3, h4, h5, h6⟩
    · rfl
    · by_cases hz : r = zero7
      · rw [hz]
      · exact absurd ⟨t0, all, fin_good h4 h5 h6 (by rw [← h3]; exact hz)⟩ hg
theorem read_zero : PRd 0 := by
  intro b hb hl k hk
  rw [FU_zero] at hk
  obtain ⟨k, rfl⟩ : ∃ m, k = m + 2 := ⟨k - 2, by omega⟩
  have hz : sluicewayref01_Read.f (k + 2) (strOfNums b) ((0 : Nat) : Int) = some zero7 := by
    rw [sluicewayref01_Read.f, size_eq b hb hl (k + 1) (by omega), Option.bind_some, sluicewayref01_Read.j0, if_pos rfl]
    split
    · rfl
    · rw [if_pos (show ((0 : Nat) : Int) = 0 from rfl)]; rfl
  rw [hz]
  refine .inr ⟨rfl, fun t m h => ?_⟩
  have := h.2.1
  cases t
  rw [rightT, if_pos (.inl rfl)] at this
  cases this
theorem read_step (l : Nat) (hll : l ≤ 19) (H : PRd l) : PRd (l + 1) := by
  intro b hb hl k hk
  rw [FU_succ] at hk
  obtain ⟨k, rfl⟩ : ∃ m, k = m + 4 := ⟨k - 4, by omega⟩
  suffices hs : ∃ r, sluicewayref01_Read.f (k + 4) (strOfNums b) ((l + 1 : Nat) : Int) = some r ∧ Res (l + 1) b r by
    obtain ⟨r, h1, h2⟩ := hs
    rw [h1]
    exact res_spec h2
  have hsz : ((strOfNums b).size : Int) = b.length := by rw [strOf_size]
  rw [sluicewayref01_Read.f, size_eq b hb hl (k + 3) (by omega), Option.bind_some]
  obtain ⟨n, kk, hnk⟩ : ∃ n kk, sizeL b = (n, kk) := ⟨_, _, rfl⟩
  rw [hnk]
  dsimp only
  have hj0 : sluicewayref01_Read.j0 (k + 3) (strOfNums b) ((l + 1 : Nat) : Int) n kk true = some zero7 := by
    rw [sluicewayref01_Read.j0, if_pos rfl]; rfl
  have hcut : ∀ (k n' : Int) (s : ByteArray) (g : Int) (ts : List S24) (m : Nat), GoodM (l + 1) ⟨k, n', s, g, ts⟩ b m → ∃ c : List Int, contF k n' s (wrL ts []) = some c ∧ n = c.length ∧ kk = (lenL c.length).length ∧ 1 + kk + n = m ∧ b.getD 0 0 = (identL k + g % 256) % 256 ∧ (b.take m).drop (1 + (lenL c.length).length) = c := by
    intro k n' s g ts m h
    obtain ⟨c, h1, h2, h3, h4, h5, h6⟩ := good_cut hl h
    rw [hnk] at h5
    simp only [Prod.mk.injEq] at h5
    obtain ⟨rfl, rfl⟩ := h5
    refine ⟨c, h1, rfl, rfl, h6, by rw [h4]; rfl, ?_⟩
    rw [h2, show 1 + (lenL c.length).length = (lenL c.length).length + 1 by omega, List.drop_succ_cons, List.drop_left]
  by_cases hneg : n < 0
  · rw [if_pos hneg]
    refine ⟨_, hj0, .inl rfl, fun t m hg => ?_⟩
    obtain ⟨k', n', s, g, ts⟩ := t
    obtain ⟨c, _, h2, _⟩ := hcut k' n' s g ts m hg
    omega
  have hp := sizeL_pos hb (by rw [hnk]; exact hneg)
  rw [hnk] at hp
  dsimp only at hp
  rw [if_neg hneg, if_neg (by omega), w64 (1 + kk) (by omega), w64 (1 + kk + n) (by omega), hsz]
  by_cases hfit : 1 + kk + n > (b.length : Int)
  · rw [decide_eq_true hfit]
    refine ⟨_, hj0, .inl rfl, fun t m hg => ?_⟩
    obtain ⟨k', n', s, g, ts⟩ := t
    obtain ⟨c, _, _, _, h2, _⟩ := hcut k' n' s g ts m hg
    have := hg.1
    omega
  rw [decide_eq_false hfit]
  obtain ⟨all, hall⟩ : ∃ all : Nat, 1 + kk + n = (all : Int) := ⟨(1 + kk + n).toNat, by omega⟩
  obtain ⟨o, ho⟩ : ∃ o : Nat, 1 + kk = (o : Int) := ⟨(1 + kk).toNat, by omega⟩
  have hE : Env b all n kk := ⟨hb, hl, by omega, by omega, by omega, hall⟩
  have hbyte := getD_byte hb 0
  obtain ⟨x, hx⟩ : ∃ x, b.getD 0 0 = x := ⟨_, rfl⟩
  rw [hx] at hbyte
  obtain ⟨c, hc⟩ : ∃ c, (b.take all).drop o = c := ⟨_, rfl⟩
  have hcb : Bs c := by
    intro y hy
    rw [← hc] at hy
    exact hb y (List.mem_of_mem_take (List.mem_of_mem_drop hy))
  have hcl : (c.length : Int) = n := by
    rw [← hc, List.length_drop, List.length_take]; omega
  have hbt0 : bt (strOfNums b) 0 = x := by
    have := bt_str b hb 0
    rw [hx] at this
    exact this
  have hkey : ∀ (t : S24) (m : Nat), GoodM (l + 1) t b m → m = all ∧ ∃ k' n' s g ts, t = ⟨k', n', s, g, ts⟩ ∧ rightT ⟨k', n', s, g, ts⟩ (l + 1) = true ∧ rngT ⟨k', n', s, g, ts⟩ ∧ contF k' n' s (wrL ts []) = some c ∧ x = (identL k' + g % 256) % 256 := by
    intro t m hg
    obtain ⟨k', n', s, g, ts⟩ := t
    obtain ⟨c', h1, h2, h3, h4, h5, h6⟩ := hcut k' n' s g ts m hg
    have hm : m = all := by omega
    have hoo : 1 + (lenL c'.length).length = o := by omega
    rw [hm, hoo, hc] at h6
    subst h6
    exact ⟨hm, k', n', s, g, ts, rfl, hg.2.1, hg.2.2.1, h1, by rw [← hx]; exact h5⟩
  have h0 : rngL ([] : List S24) := by rw [rngL]; trivial
  have hleaf : ∀ (kd nn : Int) (ss : ByteArray), ¬ (kd > 4) → (-9223372036854775808 ≤ nn ∧ nn ≤ 9223372036854775807) → ss.size ≤ 3000 → ∀ K : Nat, 3 ≤ K → sluicewayref01_Read.j1 K (strOfNums b) ((l + 1 : Nat) : Int) n kk (strOfNums c) kd nn ss 0 = some (finR b all ⟨kd, nn, ss, 0, []⟩) := by
    intro kd nn ss hkd hnn hss K hK
    obtain ⟨K, rfl⟩ : ∃ m, K = m + 3 := ⟨K - 3, by omega⟩
    rw [sluicewayref01_Read.j1, sluicewayref01_Read.l0, if_neg hkd]
    have := j3_fin b hb hl all hE.ha n kk hE.hn hE.hk hall ((l + 1 : Nat) : Int) (strOfNums c) ⟨kd, nn, ss, 0, []⟩ (rng_leaf _ _ _ _ _ hnn h0) (by rw [wtT, wtL]; omega) (l + 1) (by rw [dpT, dpL]; omega) K
    rw [cvL] at this
    exact this
  have hkids : ∀ (kd tag : Int), 4 < kd → ∀ K : Nat, FU l + 2 * 3000 + 3 ≤ K → ∃ r, sluicewayref01_Read.j1 K (strOfNums b) ((l + 1 : Nat) : Int) n kk (strOfNums c) kd 0 ⟨#[]⟩ tag = some r ∧ (r = zero7 ∨ ∃ t0, r = finR b all t0 ∧ rngT t0 ∧ dpT t0 ≤ l + 1) ∧ ∀ ts1, rightL ts1 l = true → rngL ts1 → wrL ts1 [] = some c → r = finR b all ⟨kd, 0, e0, tag, ts1⟩ := by
    intro kd tag hkd K hK
    obtain ⟨K, rfl⟩ : ∃ m, K = m + 1 := ⟨K - 1, by omega⟩
    rw [sluicewayref01_Read.j1]
    have hcl3 : c.length ≤ 3000 := by omega
    obtain ⟨r, h1, h2⟩ := loopB hE l hll H kd tag hkd c.length c [] (Nat.le_refl _) hcb (by rw [rightL]) h0 (by rw [wtL]; omega) K (by omega)
    rw [cvL] at h1
    refine ⟨r, h1, h2, fun ts1 hr1 hg1 hw1 => ?_⟩
    have h3 := loopA hE l hll H kd tag hkd ts1 c [] hcb hcl3 (by rw [rightL]) h0 (by rw [wtL]; omega) hr1 hg1 hw1 K (by omega)
    rw [cvL, h1, List.nil_append] at h3
    exact Option.some.inj h3
  rw [sluicewayref01_Read.j0, if_neg (by simp), w64 (1 + kk) (by omega), w64 (1 + kk + n) (by omega), if_pos (by omega), if_pos (by omega), hsz, if_pos (by omega), if_pos (by omega), hbt0, w64 x (by omega), hall, ho, Int.toNat_natCast, Int.toNat_natCast, str_extract, hc]
  have hfin : ∀ t0 : S24, rngT t0 → dpT t0 ≤ l + 1 → (∀ t m, GoodM (l + 1) t b m → t = t0) → Res (l + 1) b (finR b all t0) := by
    intro t0 hg hd hu
    refine ⟨.inr ⟨t0, all, rfl, hE.ha, hg, hd⟩, fun t m h => ?_⟩
    rw [hu t m h, (hkey t m h).1]
  have hdl : ∀ (kd nn : Int) (ss : ByteArray), dpT ⟨kd, nn, ss, 0, []⟩ ≤ l + 1 := by intro kd nn ss; rw [dpT, dpL]; omega
  by_cases hx2 : x = 2
  · rw [if_pos hx2]
    by_cases h8 : n > 8
    · rw [if_pos h8]
      refine ⟨_, rfl, .inl rfl, fun t m hg => ?_⟩
      obtain ⟨_, k', n', s, g, ts, rfl, h1, h2, h3, h4⟩ := hkey t m hg
      rcases kinds l k' n' s g ts c h1 h2 h3 x h4 with h | h | h | h | h | h
      · have := h.2.2; omega
      · omega
      · omega
      · omega
      · omega
      · omega
    · rw [if_neg h8, value_eq c hcb (by omega) (k + 2) (by omega), Option.bind_some, hleaf 1 (valL c) ⟨#[]⟩ (by omega) (valL_range c hcb) (by show 0 ≤ 3000; omega) (k + 2) (by omega)]
      refine ⟨_, rfl, hfin _ (rng_leaf _ _ _ _ _ (valL_range c hcb) h0) (hdl _ _ _) (fun t m hg => ?_)⟩
      obtain ⟨_, k', n', s, g, ts, rfl, h1, h2, h3, h4⟩ := hkey t m hg
      rcases kinds l k' n' s g ts c h1 h2 h3 x h4 with h | h | h | h | h | h
      · exact h.2.1
      · omega
      · omega
      · omega
      · omega
      · omega
  rw [if_neg hx2]
  by_cases hx4 : x = 4
  · rw [if_pos hx4, hleaf 2 0 _ (by omega) (by omega) (by rw [strOf_size]; omega) (k + 2) (by omega)]
    refine ⟨_, rfl, hfin _ (rng_leaf _ _ _ _ _ (by omega) h0) (hdl _ _ _) (fun t m hg => ?_)⟩
    obtain ⟨_, k', n', s, g, ts, rfl, h1, h2, h3, h4⟩ := hkey t m hg
    rcases kinds l k' n' s g ts c h1 h2 h3 x h4 with h | h | h | h | h | h
    · omega
    · omega
    · exact h.2
    · omega
    · omega
    · omega
  rw [if_neg hx4]
  by_cases hx12 : x = 12
  · rw [if_pos hx12, hleaf 3 0 _ (by omega) (by omega) (by rw [strOf_size]; omega) (k + 2) (by omega)]
    refine ⟨_, rfl, hfin _ (rng_leaf _ _ _ _ _ (by omega) h0) (hdl _ _ _) (fun t m hg => ?_)⟩
    obtain ⟨_, k', n', s, g, ts, rfl, h1, h2, h3, h4⟩ := hkey t m hg
    rcases kinds l k' n' s g ts c h1 h2 h3 x h4 with h | h | h | h | h | h
    · omega
    · omega
    · omega
    · exact h.2
    · omega
    · omega
  rw [if_neg hx12]
  by_cases hx1 : x = 1
  · rw [if_pos hx1]
    by_cases h255 : c = [255]
    · rw [if_pos ((str_255 c hcb).2 h255), hleaf 4 1 ⟨#[]⟩ (by omega) (by omega) (by show 0 ≤ 3000; omega) (k + 2) (by omega)]
      refine ⟨_, rfl, hfin _ (rng_leaf _ _ _ _ _ (by omega) h0) (hdl _ _ _) (fun t m hg => ?_)⟩
      obtain ⟨_, k', n', s, g, ts, rfl, h1, h2, h3, h4⟩ := hkey t m hg
      rcases kinds l k' n' s g ts c h1 h2 h3 x h4 with h | h | h | h | h | h
      · omega
      · rcases h.2 with h | h
        · exact h.2
        · exact absurd h255 h.1
      · omega
      · omega
      · omega
      · omega
    · rw [if_neg (fun h => h255 ((str_255 c hcb).1 h)), hleaf 4 0 ⟨#[]⟩ (by omega) (by omega) (by show 0 ≤ 3000; omega) (k + 2) (by omega)]
      refine ⟨_, rfl, hfin _ (rng_leaf _ _ _ _ _ (by omega) h0) (hdl _ _ _) (fun t m hg => ?_)⟩
      obtain ⟨_, k', n', s, g, ts, rfl, h1, h2, h3, h4⟩ := hkey t m hg
      rcases kinds l k' n' s g ts c h1 h2 h3 x h4 with h | h | h | h | h | h
      · omega
      · rcases h.2 with h | h
        · exact absurd h.1 h255
        · exact h.2
      · omega
      · omega
      · omega
      · omega
  rw [if_neg hx1]
  by_cases hx48 : x = 48
  · rw [if_pos hx48]
    obtain ⟨r, h1, h2, h3⟩ := hkids 5 0 (by omega) (k + 2) (by omega)
    refine ⟨r, h1, ?_, fun t m hg => ?_⟩
    · rcases h2 with h2 | ⟨t0, h4, h5, h6⟩
      · exact .inl h2
      · exact .inr ⟨t0, all, h4, hE.ha, h5, h6⟩
    · obtain ⟨hm, k', n', s, g, ts, rfl, g1, g2, g3, g4⟩ := hkey t m hg
      rcases kinds l k' n' s g ts c g1 g2 g3 x g4 with h | h | h | h | h | h
      · omega
      · omega
      · omega
      · omega
      · rw [h.2.1, hm]; exact h3 ts h.2.2.1 h.2.2.2.1 h.2.2.2.2
      · omega
  rw [if_neg hx48, w64 (x - 160) (by omega)]
  obtain ⟨r, h1, h2, h3⟩ := hkids 6 (x - 160) (by omega) (k + 2) (by omega)
  refine ⟨r, h1, ?_, fun t m hg => ?_⟩
  · rcases h2 with h2 | ⟨t0, h4, h5, h6⟩
    · exact .inl h2
    · exact .inr ⟨t0, all, h4, hE.ha, h5, h6⟩
  · obtain ⟨hm, k', n', s, g, ts, rfl, g1, g2, g3, g4⟩ := hkey t m hg
    rcases kinds l k' n' s g ts c g1 g2 g3 x g4 with h | h | h | h | h | h
    · omega
    · omega
    · omega
    · omega
    · omega
    · rw [h.2.2.1, hm]; exact h3 ts h.2.2.2.1 h.2.2.2.2.1 h.2.2.2.2.2
theorem read_all : ∀ l : Nat, l ≤ 20 → PRd l
  | 0, _ => read_zero
  | l + 1, h => read_step l (by omega) (read_all l (by omega))
end Go.Proofs.Ytpphoifjhhidfaa.Reads
