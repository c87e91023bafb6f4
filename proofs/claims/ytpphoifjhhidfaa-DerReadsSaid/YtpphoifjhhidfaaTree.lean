/- Plain laws of nodes of small bulk: they are written; what is written is bytes; what is read is of numbers of 64 bits; a beginning is none's. -/
import Derived.Test.YtpphoifjhhidfaaOpen
namespace Go.Proofs.Ytpphoifjhhidfaa.Der
set_option linter.unusedVariables false
set_option linter.unusedSimpArgs false
open Go.RowKit
open Go.Proofs.YtpphoifjhhidfaaW.PrintWords
open Go.Proofs.Ytpphoifjhhidfaa.Gread
theorem digN_mid (n : Nat) (h : n < 16777216) : (digN 7 (n : Int)).length ≤ 3 := digN_len2 3 7 (n : Int) (by simp; omega)
theorem lenL_four (n : Nat) (h : n < 16777216) : (lenL n).length ≤ 4 := by
  unfold lenL
  split
  · simp
  · have := digN_mid n h; simp; omega
mutual
theorem szT_wt : ∀ t : S24, szT t ≤ wtT t
  | ⟨_, _, s, _, ts⟩ => by rw [szT, wtT]; have := szL_wt ts; omega
theorem szL_wt : ∀ ts : List S24, szL ts ≤ wtL ts
  | [] => by rw [szL, wtL]; omega
  | t :: r => by rw [szL, wtL]; have := szT_wt t; have := szL_wt r; omega
end
def WrOk (t : S24) : Prop := ∀ l, rightT t l = true → rngT t → wtT t ≤ 1048576 → ∃ b, wrO t = some b ∧ b.length ≤ 13 * wtT t ∧ 2 ≤ b.length ∧ Bs b
def WrOkL (ts : List S24) : Prop := ∀ l, rightL ts l = true → rngL ts → wtL ts ≤ 1048576 → ∃ b, (∀ pre : List Int, pre.length + b.length < 70368744177664 → wrL ts pre = some (pre ++ b)) ∧ b.length ≤ 13 * wtL ts ∧ Bs b
theorem wrok_head (k g x : Int) (c : List Int) (w : Nat) (hk : 1 ≤ k ∧ k ≤ 6) (hx : (identL k + g % 256) % 256 = x) (hc : Bs c) (hl : c.length ≤ w) (hw : w + 5 ≤ 13 * 1048576) : ∃ b, headF k g c = some b ∧ b.length ≤ w + 5 ∧ 2 ≤ b.length ∧ Bs b := by
  have h4 := lenL_four c.length (by omega)
  have h1 := lenL_pos c.length
  refine ⟨_, head_ok k g x c hk (by omega) hx, by simp; omega, by simp; omega, ?_⟩
  intro y hy
  rcases List.mem_cons.1 hy with rfl | hy
  · omega
  · rcases List.mem_append.1 hy with hy | hy
    · exact lenL_bs _ y hy
    · exact hc y hy
theorem wrok_of (k n : Int) (s : ByteArray) (g : Int) (ts : List S24) (IH : WrOkL ts) : WrOk ⟨k, n, s, g, ts⟩ := by
  intro l hr hg hw
  rw [rightT] at hr
  rw [rngT] at hg
  rw [wtT] at hw ⊢
  rw [wrO]
  split at hr
  · cases hr
  rename_i hbad
  simp only [not_or, not_and] at hbad
  have hk : 1 ≤ k ∧ k ≤ 6 := by omega
  have hx := fun x (h : (identL k + g % 256) % 256 = x) c w hc hl hw => wrok_head k g x c w hk h hc hl hw
  have hx := hx _ rfl
  rw [contF]
  split at hr
  · rename_i h1
    rw [if_pos h1, number_eq n hg.1.1 hg.1.2, Option.bind_some]
    have hn := numN_len 7 n
    obtain ⟨b, h1, h2, h3, h4⟩ := hx (numN 7 n) 8 (numN_bs 7 n) (by omega) (by omega)
    exact ⟨b, h1, by omega, h3, h4⟩
  rename_i h1
  rw [if_neg h1]
  split at hr
  · rename_i h4
    rw [if_pos h4, Option.bind_some]
    obtain ⟨b, h1, h2, h3, h4⟩ := hx [wrap64 (-n) % 256] 1 (by intro y hy; simp at hy; omega) (by simp) (by omega)
    exact ⟨b, h1, by omega, h3, h4⟩
  rename_i h4
  rw [if_neg h4]
  by_cases h23 : k = 2 ∨ k = 3
  · rw [if_pos h23, if_pos (by omega), Option.bind_some]
    obtain ⟨b, h1, h2, h3, h4⟩ := hx (bytesOf s) s.size (bytesOf_bs s) (by rw [bytesOf_length]; omega) (by omega)
    exact ⟨b, h1, by omega, h3, h4⟩
  · rw [if_neg h23]
    rw [if_neg (by omega), if_neg (by omega)] at hr
    simp only [Bool.and_eq_true] at hr
    obtain ⟨c, h5, h6, h7⟩ := IH _ hr.2.2 hg.2 (by omega)
    have h8 := h5 [] (by simp; omega)
    rw [List.nil_append] at h8
    rw [h8, Option.bind_some]
    obtain ⟨b, h1, h2, h3, h4⟩ := hx c _ h7 h6 (by omega)
    exact ⟨b, h1, by omega, h3, h4⟩
theorem wrok_nil : WrOkL [] := by
  intro l _ _ _
  exact ⟨[], fun pre _ => by rw [wrL]; simp, by simp, fun x hx => by cases hx⟩
theorem wrok_cons (t : S24) (r : List S24) (H1 : WrOk t) (H2 : WrOkL r) : WrOkL (t :: r) := by
  intro l hr hg hw
  rw [rightL, Bool.and_eq_true] at hr
  rw [rngL] at hg
  rw [wtL] at hw ⊢
  obtain ⟨b, h1, h2, h3, h4⟩ := H1 l hr.1 hg.1 (by omega)
  obtain ⟨c, h5, h6, h7⟩ := H2 l hr.2 hg.2 (by omega)
  refine ⟨b ++ c, fun pre hpre => ?_, by simp; omega, fun x hx => ?_⟩
  · simp at hpre
    rw [wrL, h1, Option.bind_some, if_pos (by omega), h5 (pre ++ b) (by simp; omega)]
    simp
  · rcases List.mem_append.1 hx with hx | hx
    · exact h4 x hx
    · exact h7 x hx
mutual
theorem wrok : ∀ t : S24, WrOk t
  | ⟨k, n, s, g, ts⟩ => wrok_of k n s g ts (wrokL ts)
theorem wrokL : ∀ ts : List S24, WrOkL ts
  | [] => wrok_nil
  | t :: r => wrok_cons t r (wrok t) (wrokL r)
end
theorem strOf_inj {a b : List Int} (ha : Bs a) (hb : Bs b) (h : (strOfNums a).toList = (strOfNums b).toList) : a = b := by
  have h1 : strOfNums a = strOfNums b := by
    rw [ByteArray.toList_eq, ByteArray.toList_eq] at h
    generalize strOfNums a = x at *
    generalize strOfNums b = y at *
    obtain ⟨d⟩ := x
    obtain ⟨d'⟩ := y
    simp at h
    rw [h]
  rw [← bytesOf_str a ha, ← bytesOf_str b hb, h1]
theorem rngL_app : ∀ (a b : List S24), rngL a → rngL b → rngL (a ++ b)
  | [], b, _, h => h
  | t :: a, b, h1, h2 => by
    rw [rngL] at h1
    rw [List.cons_append, rngL]
    exact ⟨h1.1, rngL_app a b h1.2 h2⟩
def RngRd (rd : List Int → Option (Option (S24 × List Int))) : Prop := ∀ b, Bs b → b.length < 16777216 → ∀ t rest, rd b = some (some (t, rest)) → rngT t
theorem kids_rng (rd : List Int → Option (Option (S24 × List Int))) (H : RngRd rd) (HS : ∀ b t rest, Bs b → b.length < 16777216 → rd b = some (some (t, rest)) → Bs rest ∧ rest.length < b.length) : ∀ (f : Nat) (b : List Int) (acc ts : List S24), Bs b → b.length < 16777216 → rngL acc → kidsWith rd f b acc = some (some ts) → rngL ts := by
  intro f
  induction f with
  | zero => intro b acc ts _ _ _ h; simp [kidsWith] at h
  | succ f ih =>
    intro b acc ts hb hl ha h
    rw [kidsWith] at h
    split at h
    · obtain ⟨q, hq, h'⟩ := Option.bind_eq_some_iff.mp h
      clear h
      cases q with
      | none => cases h'
      | some p =>
        obtain ⟨t, rest⟩ := p
        dsimp only at h'
        split at h'
        · have h1 := H b hb hl t rest hq
          have h2 := HS b t rest hb hl hq
          exact ih rest _ ts h2.1 (by omega) (rngL_app _ _ ha (by rw [rngL, rngL]; exact ⟨h1, trivial⟩)) h'
        · cases h'
    · obtain rfl := Option.some.inj (Option.some.inj h)
      exact ha
theorem rng_leaf (k n : Int) (s : ByteArray) (g : Int) (ts : List S24) (h : -9223372036854775808 ≤ n ∧ n ≤ 9223372036854775807) (hs : rngL ts) : rngT ⟨k, n, s, g, ts⟩ := by
  rw [rngT]; exact ⟨h, hs⟩
theorem body_rng (K : List Int → Option (Option (List S24))) (HK : ∀ c ts, Bs c → c.length < 16777216 → K c = some (some ts) → rngL ts) (x : Int) (c : List Int) (hc : Bs c) (hl : c.length < 16777216) (t : S24) (h : bodyO K x c = some (some t)) : rngT t := by
  have h0 : rngL [] := by rw [rngL]; trivial
  have hv := valL_range c hc
  unfold bodyO at h
  split at h
  · rw [number_eq _ hv.1 hv.2, Option.bind_some] at h
    have h := Option.some.inj h
    split at h
    · obtain rfl := Option.some.inj h
      exact rng_leaf _ _ _ _ _ hv h0
    · cases h
  split at h
  · have h := Option.some.inj h
    split at h
    · obtain rfl := Option.some.inj h
      exact rng_leaf _ _ _ _ _ (by omega) h0
    · cases h
  split at h
  · obtain rfl := Option.some.inj (Option.some.inj h)
    exact rng_leaf _ _ _ _ _ (by omega) h0
  split at h
  · have h := Option.some.inj h
    split at h
    · obtain rfl := Option.some.inj h
      exact rng_leaf _ _ _ _ _ (by omega) h0
    · cases h
  split at h
  · obtain ⟨r, hr, h⟩ := Option.bind_eq_some_iff.mp h
    have h := Option.some.inj h
    cases r with
    | none => cases h
    | some ts =>
      obtain rfl := Option.some.inj h
      exact rng_leaf _ _ _ _ _ (by omega) (HK c ts hc hl hr)
  split at h
  · obtain ⟨r, hr, h⟩ := Option.bind_eq_some_iff.mp h
    have h := Option.some.inj h
    cases r with
    | none => cases h
    | some ts =>
      obtain rfl := Option.some.inj h
      exact rng_leaf _ _ _ _ _ (by omega) (HK c ts hc hl hr)
  · cases h
theorem read_rng : ∀ l : Nat, RngRd (readO l) := by
  intro l
  induction l with
  | zero =>
    intro b hb hl t rest h
    rw [readO] at h
    obtain ⟨q, _, h⟩ := Option.bind_eq_some_iff.mp h
    cases h
  | succ l ih =>
    intro b hb hl t rest h
    rw [readO] at h
    obtain ⟨q, hq, h⟩ := Option.bind_eq_some_iff.mp h
    cases q with
    | none => cases h
    | some p =>
      obtain ⟨c, r⟩ := p
      dsimp only at h
      obtain ⟨x, rfl⟩ := cutO_inv hb hq
      obtain ⟨r', hr', h⟩ := Option.bind_eq_some_iff.mp h
      have h := Option.some.inj h
      cases r' with
      | none => cases h
      | some t' =>
        simp only [Option.map_some, Option.some.injEq, Prod.mk.injEq] at h
        obtain ⟨rfl, rfl⟩ := h
        have hc : Bs c := fun z hz => hb z (by simp [hz])
        have hcl : c.length < 16777216 := by simp at hl; omega
        refine body_rng _ ?_ _ c hc hcl t' hr'
        intro c' ts hc' hl' hk
        exact kids_rng (readO l) ih (fun b t rest hb hl h => read_shrinks hb hl h) _ c' [] ts hc' hl' (by rw [rngL]; trivial) hk
end Go.Proofs.Ytpphoifjhhidfaa.Der
