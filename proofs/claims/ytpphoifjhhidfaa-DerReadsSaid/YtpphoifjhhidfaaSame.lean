/- der.Same. -/
import Derived.Test.YtpphoifjhhidfaaTy
namespace Go.Proofs.Ytpphoifjhhidfaa.Der
set_option linter.unusedVariables false
set_option linter.unusedSimpArgs false
open Go.RowKit
open Go.Proofs.YtpphoifjhhidfaaW.PrintWords
abbrev nodeV (t : S24) (A : Option Addr) (c : Nat) : Value := .agg #[.int .i64 t.f0, .int .i64 t.f1, .string t.f2, .int .i64 t.f3, .slice A t.f4.length c]
mutual
/-- Same. -/
def sameT : S24 → S24 → Bool
  | ⟨k, n, s, g, ts⟩, ⟨k', n', s', g', ts'⟩ => decide (k = k') && (decide (n = n') && ((s.toList == s'.toList) && (decide (g = g') && sameL ts ts')))
def sameL : List S24 → List S24 → Bool
  | [], [] => true
  | t :: r, t' :: r' => sameT t t' && sameL r r'
  | _, _ => false
end
mutual
/-- How many nodes. -/
def szT : S24 → Nat
  | ⟨_, _, _, _, ts⟩ => 1 + szL ts
def szL : List S24 → Nat
  | [] => 0
  | t :: r => szT t + szL r
end
theorem szT_pos (t : S24) : 1 ≤ szT t := by
  cases t; rw [szT]; omega
theorem szL_len : ∀ ts : List S24, ts.length ≤ szL ts
  | [] => by simp [szL]
  | t :: r => by
    have := szL_len r
    have := szT_pos t
    rw [szL, List.length_cons]; omega
theorem szL_mem : ∀ (ts : List S24) (t : S24), t ∈ ts → szT t ≤ szL ts
  | [], t, h => by simp at h
  | t' :: r, t, h => by
    rw [szL]
    rcases List.mem_cons.1 h with rfl | h
    · omega
    · have := szL_mem r t h; omega
def PSame (t : S24) : Prop := szT t ≤ 4611686018427387904 → ∀ (t' : S24) (A B : Option Addr) (c d : Nat) (w : World), Kd.C k24 w A t.f4.length t.f4 → t.f4.length ≤ c → Kd.C k24 w B t'.f4.length t'.f4 → t'.f4.length ≤ d → Calls Try.prog 21 #[nodeV t A c, nodeV t' B d] w fun e w' => e = .returned (.bool (sameT t t')) ∧ Below w.heap.size w w'
def intOf : Value → Int
  | .int _ x => x
  | _ => 0
set_option maxHeartbeats 1000000 in
set_option maxRecDepth 100000 in
theorem same_of (k n : Int) (s : ByteArray) (g : Int) (ts : List S24) (IH : szL ts ≤ 4611686018427387904 → ∀ (ts' : List S24) (A B : Option Addr) (c d : Nat) (w : World), Kd.C k24 w A ts.length ts → Kd.C k24 w B ts'.length ts' → ts.length ≤ c → ts'.length ≤ d → Calls Try.prog 30 #[.slice A ts.length c, .slice B ts'.length d, .func (.func 21) #[] #[]] w fun e w' => e = .returned (.bool (sameL ts ts')) ∧ Below w.heap.size w w') : PSame ⟨k, n, s, g, ts⟩ := by
  intro hsz t' A B c d w hk hc hk' hd
  replace IH := IH (by rw [szT] at hsz; omega)
  obtain ⟨k', n', s', g', ts'⟩ := t'
  dsimp only at hk hc hk' hd
  have hsame : sameT ⟨k, n, s, g, ts⟩ ⟨k', n', s', g', ts'⟩ = (decide (k = k') && (decide (n = n') && ((s.toList == s'.toList) && (decide (g = g') && sameL ts ts')))) := by rw [sameT]
  rw [hsame]
  replace IH := Aside0.mk IH
  replace hk := Aside0.mk hk
  replace hk' := Aside0.mk hk'
  clear hsame
  generalize hl : sameL ts ts' = r at *
  replace hl := Aside0.mk hl
  dsimp only [nodeV]
  go_enter Try.func21, Try.ntmps21
  go_wp2_with (go_at_call 30; refine (IH.out ts' A B c d _ (Kd.C_below hk.out (below_alloc (below_alloc (Below.refl _ _) _) _)) (Kd.C_below hk'.out (below_alloc (below_alloc (Below.refl _ _) _) _)) hc hd).mono ?_; rintro e w3 ⟨rfl, hb⟩; have hb3 := Aside0.mk (below_step (below_alloc (below_alloc (Below.refl _ _) _) _) hb); clear hb)
  all_goals (
    go_ret
    refine ⟨?_, ?_⟩
    · first | rfl | (simp_all; done) | (simp [*]; done) | (simp [*, hl.out]; done)
    · first | exact hb3.out | exact below_alloc (below_alloc (Below.refl _ _) _) _)
theorem sameL_iff : ∀ (a b : List S24), sameL a b = true ↔ a.length = b.length ∧ ∀ j : Nat, j < a.length → sameT (a.getD j z24) (b.getD j z24) = true
  | [], [] => by simp [sameL]
  | [], _ :: _ => by simp [sameL]
  | _ :: _, [] => by simp [sameL]
  | t :: r, t' :: r' => by
    rw [sameL, Bool.and_eq_true, sameL_iff r r']
    constructor
    · rintro ⟨h1, h2, h3⟩
      refine ⟨by simp [h2], fun j hj => ?_⟩
      cases j with
      | zero => simpa using h1
      | succ j => simpa using h3 j (by simpa using hj)
    · rintro ⟨h1, h2⟩
      refine ⟨by simpa using h2 0 (by simp), by simpa using h1, fun j hj => ?_⟩
      simpa using h2 (j + 1) (by simpa using hj)
def RelS (w : World) (ts ts' : List S24) (v : Value) (W : World) : Prop := ∃ j : Nat, j ≤ ts.length ∧ v = .int .i64 j ∧ (∀ i : Nat, i < j → sameT (ts.getD i z24) (ts'.getD i z24) = true) ∧ Below w.heap.size w W
theorem getD_mem (ts : List S24) (j : Nat) (h : j < ts.length) : ts.getD j z24 ∈ ts := by
  simp [List.getD_eq_getElem?_getD, h]
set_option maxHeartbeats 1000000 in
set_option maxRecDepth 100000 in
theorem equalFunc_of (ts : List S24) (hsz : szL ts ≤ 4611686018427387904) (IH : ∀ t ∈ ts, PSame t) (ts' : List S24) (A B : Option Addr) (c d : Nat) (w : World) (hk : Kd.C k24 w A ts.length ts) (hk' : Kd.C k24 w B ts'.length ts') (hc : ts.length ≤ c) (hd : ts'.length ≤ d) :
    Calls Try.prog 30 #[.slice A ts.length c, .slice B ts'.length d, .func (.func 21) #[] #[]] w fun e w' => e = .returned (.bool (sameL ts ts')) ∧ Below w.heap.size w w' := by
  have hu24 := Try.underlying24
  replace IH := Aside0.mk IH
  replace hk := Aside0.mk hk
  replace hk' := Aside0.mk hk'
  by_cases hl : (ts.length : Int) = ts'.length
  · have hl2 : ((ts.length : Int) != ts'.length) = false := by simp [hl]
    go_enter Try.func30, Try.ntmps30
    go_wp2
    go_loopw [17] (RelS w ts ts') (fun v _ => (ts.length - intOf v).toNat)
    case atStart => exact ⟨0, by omega, rfl, fun i hi => absurd hi (by omega), Below.refl _ _⟩
    case round =>
      obtain ⟨j, hj, rfl, hs, hb⟩ := hrel
      replace hb := Aside0.mk hb
      replace hs := Aside0.mk hs
      by_cases hjl : (j : Int) < ts.length
      · have hjl' : (j : Int) < ts'.length := by omega
        obtain ⟨ad, A4, c4, e1, hx0, hx1, hx2, hx3, hx4, hl4, hi4⟩ := at_T24 hk.out j (by omega) hjl
        obtain ⟨ad', B4, d4, e1', hy0, hy1, hy2, hy3, hy4, hl4', hi4'⟩ := at_T24 hk'.out j (by omega) (by omega)
        subst e1; subst e1'
        replace hx0 := (hb.out.cell (World.block_lt_of_cell? w _ hx0)).trans hx0
        replace hx1 := (hb.out.cell (World.block_lt_of_cell? w _ hx1)).trans hx1
        replace hx2 := (hb.out.cell (World.block_lt_of_cell? w _ hx2)).trans hx2
        replace hx3 := (hb.out.cell (World.block_lt_of_cell? w _ hx3)).trans hx3
        replace hx4 := (hb.out.cell (World.block_lt_of_cell? w _ hx4)).trans hx4
        replace hy0 := (hb.out.cell (World.block_lt_of_cell? w _ hy0)).trans hy0
        replace hy1 := (hb.out.cell (World.block_lt_of_cell? w _ hy1)).trans hy1
        replace hy2 := (hb.out.cell (World.block_lt_of_cell? w _ hy2)).trans hy2
        replace hy3 := (hb.out.cell (World.block_lt_of_cell? w _ hy3)).trans hy3
        replace hy4 := (hb.out.cell (World.block_lt_of_cell? w _ hy4)).trans hy4
        have hjn : j < ts.length := by omega
        have hIH := Aside0.mk (IH.out _ (getD_mem ts j hjn) (Nat.le_trans (szL_mem ts _ (getD_mem ts j hjn)) hsz))
        have e1 : rd_T24 ts (j : Int) = ts.getD j z24 := rfl
        have e2 : rd_T24 ts' (j : Int) = ts'.getD j z24 := rfl
        rw [e1] at hx0 hx1 hx2 hx3 hx4 hl4 hi4
        rw [e2] at hy0 hy1 hy2 hy3 hy4 hl4' hi4'
        clear e1 e2
        simp only [Int.toNat_natCast] at hx0 hx1 hx2 hx3 hx4 hy0 hy1 hy2 hy3 hy4
        generalize hq : ts.getD j z24 = t at *
        generalize hq' : ts'.getD j z24 = t' at *
        replace hi4 := Aside0.mk hi4
        replace hi4' := Aside0.mk hi4'
        have hw : wr.heap.size ≥ w.heap.size := hb.out.size
        have hz0 := fun o => ((below_alloc (Below.refl wr.heap.size wr) o).cell (World.block_lt_of_cell? wr _ hy0)).trans hy0
        have hz1 := fun o => ((below_alloc (Below.refl wr.heap.size wr) o).cell (World.block_lt_of_cell? wr _ hy1)).trans hy1
        have hz2 := fun o => ((below_alloc (Below.refl wr.heap.size wr) o).cell (World.block_lt_of_cell? wr _ hy2)).trans hy2
        have hz3 := fun o => ((below_alloc (Below.refl wr.heap.size wr) o).cell (World.block_lt_of_cell? wr _ hy3)).trans hy3
        have hz4 := fun o => ((below_alloc (Below.refl wr.heap.size wr) o).cell (World.block_lt_of_cell? wr _ hy4)).trans hy4
        generalize hqq : sameT t t' = q
        go_wp2_with (go_at_call 21; refine (hIH.out t' A4 B4 c4 d4 _ (Kd.C_below hi4.out (below_alloc (below_alloc hb.out _) _)) hl4 (Kd.C_below hi4'.out (below_alloc (below_alloc hb.out _) _)) hl4').mono ?_; rintro e w3 ⟨rfl, hb2⟩; rw [hqq]; have hb3 := Aside0.mk (below_step (below_alloc (below_alloc hb.out _) _) hb2); clear hb2)
        · go_ret
          refine ⟨?_, hb3.out⟩
          have hf : sameL ts ts' = false := by
            cases hq3 : sameL ts ts' with
            | false => rfl
            | true =>
              have h1 := ((sameL_iff ts ts').1 hq3).2 j hjn
              rw [hq, hq', hqq] at h1
              simp_all
          rw [hf]
          first | rfl | (simp [*]; done)
        · have hle := szL_len ts
          rw [show wrap64 ((j : Int) + 1) = ((j + 1 : Nat) : Int) by unfold wrap64; omega]
          refine ⟨⟨j + 1, by omega, rfl, fun i hi => ?_, hb3.out⟩, ?_⟩
          · rcases Nat.lt_succ_iff_lt_or_eq.1 hi with h1 | h1
            · exact hs.out i h1
            · subst h1
              rw [hq, hq', hqq]
              simp_all
          · simp only [intOf]
            omega
      · have hf : sameL ts ts' = true := (sameL_iff ts ts').2 ⟨by omega, fun i hi => hs.out i (by omega)⟩
        have hjl2 : ¬ ((j : Int) < ts'.length) := by omega
        go_wp2
        go_ret
        exact ⟨rfl, hb.out⟩
  · have hl2 : ((ts.length : Int) != ts'.length) = true := by simpa using hl
    have hf : sameL ts ts' = false := by
      cases hq3 : sameL ts ts' with
      | false => rfl
      | true => exact absurd ((sameL_iff ts ts').1 hq3).1 (by omega)
    rw [hf]
    go_enter Try.func30, Try.ntmps30
    go_wp2
    go_ret
    exact ⟨rfl, Below.refl _ _⟩
mutual
theorem same_calls : ∀ t : S24, PSame t
  | ⟨k, n, s, g, ts⟩ => same_of k n s g ts fun hsz ts' A B c d w hk hk' hc hd => equalFunc_of ts hsz (all_same ts) ts' A B c d w hk hk' hc hd
theorem all_same : ∀ (ts : List S24), ∀ t ∈ ts, PSame t
  | [], t, h => absurd h (by simp)
  | t' :: r, t, h => by
    rcases List.mem_cons.1 h with h1 | h1
    · rw [h1]; exact same_calls t'
    · exact all_same r t h1
end
end Go.Proofs.Ytpphoifjhhidfaa.Der
