/- der.right. -/
import Derived.Test.YtpphoifjhhidfaaPlain
namespace Go.Proofs.Ytpphoifjhhidfaa.Der
set_option linter.unusedVariables false
set_option linter.unusedSimpArgs false
open Go.RowKit
open Go.Proofs.YtpphoifjhhidfaaW.PrintWords
open Go.Proofs.YtpphoifjhhidfaaW.PrintLast
open Go.Proofs.YtpphoifjhhidfaaW.PrintMore
mutual
/-- right. -/
def rightT : S24 → Nat → Bool
  | ⟨k, n, s, g, ts⟩, l =>
    if l = 0 ∨ k < 1 ∨ 6 < k ∨ g < 0 ∨ 30 < g ∨ (0 < g ∧ k ≠ 6) then false
    else if k = 1 then (s.toList == []) && ts.isEmpty
    else if k = 4 then (s.toList == []) && (ts.isEmpty && (n == 0 || n == 1))
    else if k = 2 then (n == 0) && ts.isEmpty
    else if k = 3 then (n == 0) && (ts.isEmpty && plainS s)
    else (n == 0) && ((s.toList == []) && rightL ts (l - 1))
def rightL : List S24 → Nat → Bool
  | [], _ => true
  | t :: r, l => rightT t l && rightL r l
end
theorem rightL_iff (l : Nat) : ∀ ts : List S24, rightL ts l = true ↔ ∀ j : Nat, j < ts.length → rightT (ts.getD j z24) l = true
  | [] => by simp [rightL]
  | t :: r => by
    rw [rightL, Bool.and_eq_true, rightL_iff l r]
    constructor
    · rintro ⟨h1, h2⟩ j hj
      cases j with
      | zero => simpa using h1
      | succ j => simpa using h2 j (by simpa using hj)
    · intro h
      refine ⟨by simpa using h 0 (by simp), fun j hj => ?_⟩
      simpa using h (j + 1) (by simpa using hj)
mutual
/-- No text is too long. -/
def txT : S24 → Prop
  | ⟨_, _, s, _, ts⟩ => s.size < 9223372036854775807 ∧ txL ts
def txL : List S24 → Prop
  | [] => True
  | t :: r => txT t ∧ txL r
end
theorem txL_mem : ∀ (ts : List S24) (t : S24), t ∈ ts → txL ts → txT t
  | [], t, h, _ => by simp at h
  | t' :: r, t, h, h2 => by
    rw [txL] at h2
    rcases List.mem_cons.1 h with rfl | h
    · exact h2.1
    · exact txL_mem r t h h2.2
def PRight (t : S24) : Prop := szT t ≤ 4611686018427387904 → txT t → ∀ (l : Nat) (A : Option Addr) (c : Nat) (w : World), l < 1000000 → Kd.C k24 w A t.f4.length t.f4 → t.f4.length ≤ c → Calls Try.prog 27 #[nodeV t A c, .int .i64 (l : Int)] w fun e w' => e = .returned (.bool (rightT t l)) ∧ Below w.heap.size w w'
set_option maxHeartbeats 1000000 in
theorem right1_calls (t : S24) (IH : PRight t) (hsz : szT t ≤ 4611686018427387904) (htx : txT t) (l : Nat) (hl : l < 1000000) (A : Option Addr) (c G : Nat) (w : World) (hk : Kd.C k24 w A t.f4.length t.f4) (hc : t.f4.length ≤ c) (hG : w.heap[G]? = some (.cells #[.int .i64 ((l : Int) + 1)] 3 (0, 0))) :
    Calls Try.prog 41 #[nodeV t A c, .pointer (some ⟨G, 0, none⟩)] w fun e w' => e = .returned (.bool (!rightT t l)) ∧ Below w.heap.size w w' := by
  replace IH := Aside0.mk (IH hsz htx l)
  replace hk := Aside0.mk hk
  have hx := fun o => (blk_cell (blk_alloc hG o) 0).trans rfl
  have hw : wrap64 ((l : Int) + 1 - 1) = l := by unfold wrap64; omega
  have hw2 : (l : Int) + 1 - 1 = l := by omega
  dsimp only [nodeV]
  go_enter Try.func41, Try.ntmps41
  go_wp2_with (go_at_call 27; refine (IH.out A c _ hl (Kd.C_below hk.out (below_alloc (Below.refl _ _) _)) hc).mono ?_; rintro e w3 ⟨rfl, hb⟩; have hb3 := Aside0.mk (below_step (below_alloc (Below.refl _ _) _) hb); clear hb)
  go_ret
  exact ⟨rfl, hb3.out⟩
def RelR (w : World) (ts : List S24) (l : Nat) (v : Value) (W : World) : Prop := ∃ j : Nat, j ≤ ts.length ∧ v = .int .i64 j ∧ (∀ i : Nat, i < j → rightT (ts.getD i z24) l = true) ∧ Below w.heap.size w W
set_option maxHeartbeats 1000000 in
set_option maxRecDepth 100000 in
theorem index_right (ts : List S24) (hsz : szL ts ≤ 4611686018427387904) (htx : txL ts) (IH : ∀ t ∈ ts, PRight t) (l : Nat) (hl : l < 1000000) (A : Option Addr) (c G : Nat) (w : World) (hk : Kd.C k24 w A ts.length ts) (hc : ts.length ≤ c) (hG : w.heap[G]? = some (.cells #[.int .i64 ((l : Int) + 1)] 3 (0, 0))) :
    Calls Try.prog 55 #[.slice A ts.length c, .func (.func 41) #[] #[.pointer (some ⟨G, 0, none⟩)]] w fun e w' => (∃ r : Int, e = .returned (.int .i64 r) ∧ (decide (0 ≤ r)) = !rightL ts l) ∧ Below w.heap.size w w' := by
  have hu24 := Try.underlying24
  replace IH := Aside0.mk IH
  replace hk := Aside0.mk hk
  go_enter Try.func55, Try.ntmps55
  go_wp2
  go_loopw [8] (RelR w ts l) (fun v _ => (ts.length - intOf v).toNat)
  case atStart => exact ⟨0, by omega, rfl, fun i hi => absurd hi (by omega), Below.refl _ _⟩
  case round =>
    obtain ⟨j, hj, rfl, hs, hb⟩ := hrel
    replace hb := Aside0.mk hb
    replace hs := Aside0.mk hs
    have hle := szL_len ts
    by_cases hjl : (j : Int) < ts.length
    · obtain ⟨ad, A4, c4, e1, hx0, hx1, hx2, hx3, hx4, hl4, hi4⟩ := at_T24 hk.out j (by omega) hjl
      subst e1
      replace hx0 := (hb.out.cell (World.block_lt_of_cell? w _ hx0)).trans hx0
      replace hx1 := (hb.out.cell (World.block_lt_of_cell? w _ hx1)).trans hx1
      replace hx2 := (hb.out.cell (World.block_lt_of_cell? w _ hx2)).trans hx2
      replace hx3 := (hb.out.cell (World.block_lt_of_cell? w _ hx3)).trans hx3
      replace hx4 := (hb.out.cell (World.block_lt_of_cell? w _ hx4)).trans hx4
      have hjn : j < ts.length := by omega
      have hIH := Aside0.mk (right1_calls _ (IH.out _ (getD_mem ts j hjn)) (Nat.le_trans (szL_mem ts _ (getD_mem ts j hjn)) hsz) (txL_mem ts _ (getD_mem ts j hjn) htx) l hl)
      have e1 : rd_T24 ts (j : Int) = ts.getD j z24 := rfl
      rw [e1] at hx0 hx1 hx2 hx3 hx4 hl4 hi4
      clear e1
      simp only [Int.toNat_natCast] at hx0 hx1 hx2 hx3 hx4
      have hG2 := Aside0.mk (blk_below hG hb.out)
      generalize hq : ts.getD j z24 = t at *
      replace hi4 := Aside0.mk hi4
      generalize hqq : rightT t l = q
      go_wp2_with (go_at_call 41; refine (hIH.out A4 c4 G _ (Kd.C_below hi4.out hb.out) hl4 hG2.out).mono ?_; rintro e w3 ⟨rfl, hb2⟩; rw [hqq]; have hb3 := Aside0.mk (below_step hb.out hb2); clear hb2)
      · go_ret
        refine ⟨⟨_, rfl, ?_⟩, hb3.out⟩
        have hf : rightL ts l = false := by
          cases hq3 : rightL ts l with
          | false => rfl
          | true =>
            have h1 := (rightL_iff l ts).1 hq3 j hjn
            rw [hq, hqq] at h1
            simp_all
        rw [hf]
        simp
      · try rw [show wrap64 ((j : Int) + 1) = (j : Int) + 1 by unfold wrap64; omega]
        refine ⟨⟨j + 1, by omega, rfl, fun i hi => ?_, hb3.out⟩, ?_⟩
        · rcases Nat.lt_succ_iff_lt_or_eq.1 hi with h1 | h1
          · exact hs.out i h1
          · subst h1
            rw [hq, hqq]
            simp_all
        · simp only [intOf]
          omega
    · have hf : rightL ts l = true := (rightL_iff l ts).2 (fun i hi => hs.out i (by omega))
      go_wp2
      go_ret
      refine ⟨⟨_, rfl, ?_⟩, hb.out⟩
      first | decide | (rw [hf]; rfl)
set_option maxHeartbeats 1000000 in
theorem contains_right (ts : List S24) (hsz : szL ts ≤ 4611686018427387904) (htx : txL ts) (IH : ∀ t ∈ ts, PRight t) (l : Nat) (hl : l < 1000000) (A : Option Addr) (c G : Nat) (w : World) (hk : Kd.C k24 w A ts.length ts) (hc : ts.length ≤ c) (hG : w.heap[G]? = some (.cells #[.int .i64 ((l : Int) + 1)] 3 (0, 0))) :
    Calls Try.prog 40 #[.slice A ts.length c, .func (.func 41) #[] #[.pointer (some ⟨G, 0, none⟩)]] w fun e w' => e = .returned (.bool (!rightL ts l)) ∧ Below w.heap.size w w' := by
  replace hk := Aside0.mk hk
  replace hG := Aside0.mk hG
  go_enter Try.func40, Try.ntmps40
  go_wp2_with (go_at_call 55; refine (index_right ts hsz htx IH l hl A c G _ hk.out hc hG.out).mono ?_; rintro e w3 ⟨⟨r, rfl, hr⟩, hb⟩; have hb3 := Aside0.mk hb; clear hb)
  go_ret
  refine ⟨?_, hb3.out⟩
  rw [← hr]; rfl
theorem blk_new2 (w : World) (o o' : Obj) : ((w.alloc o).alloc o').heap[w.heap.size + 1]? = some o' := by
  have h := heap_alloc_new (w.alloc o) o'
  rwa [World.size_alloc] at h
set_option maxHeartbeats 2000000 in
set_option maxRecDepth 100000 in
theorem right_of (k n : Int) (s : ByteArray) (g : Int) (ts : List S24) (IH : ∀ t ∈ ts, PRight t) : PRight ⟨k, n, s, g, ts⟩ := by
  intro hsz htx l A c w hl hk hc
  rw [szT] at hsz
  rw [txT] at htx
  obtain ⟨hs, htx⟩ := htx
  dsimp only at hk hc
  have hright : rightT ⟨k, n, s, g, ts⟩ l = (if l = 0 ∨ k < 1 ∨ 6 < k ∨ g < 0 ∨ 30 < g ∨ (0 < g ∧ k ≠ 6) then false
    else if k = 1 then (s.toList == []) && ts.isEmpty
    else if k = 4 then (s.toList == []) && (ts.isEmpty && (n == 0 || n == 1))
    else if k = 2 then (n == 0) && ts.isEmpty
    else if k = 3 then (n == 0) && (ts.isEmpty && plainS s)
    else (n == 0) && ((s.toList == []) && rightL ts (l - 1))) := by rw [rightT]
  rw [hright]
  clear hright
  have hlen : ts.length ≤ szL ts := szL_len ts
  replace hk := Aside0.mk hk
  have hemp : ts.isEmpty = ((ts.length : Int) == 0) := by cases ts <;> simp <;> omega
  have hin := Aside0.mk (contains_right ts (by omega) htx IH (l - 1) (by omega) A c)
  have hpl := Aside0.mk (plain_calls s)
  generalize hrl : rightL ts (l - 1) = r at *
  generalize hps : plainS s = p at *
  replace hrl := Aside0.mk hrl
  replace hps := Aside0.mk hps
  clear IH
  dsimp only [nodeV]
  rw [hemp]
  by_cases hq0 : l = 0
  · subst hq0
    rw [if_pos (by simp)]
    go_enter Try.func27, Try.ntmps27
    go_wp2
    go_ret
    exact ⟨rfl, below_alloc (below_alloc (Below.refl _ _) _) _⟩
  have hl0 : ((l : Int) == 0) = false := by simpa using hq0
  by_cases hq1 : k < 1
  · rw [if_pos (by simp [hq1])]
    go_enter Try.func27, Try.ntmps27
    go_wp2
    go_ret
    exact ⟨rfl, below_alloc (below_alloc (Below.refl _ _) _) _⟩
  by_cases hq2 : 6 < k
  · rw [if_pos (by simp [hq2])]
    go_enter Try.func27, Try.ntmps27
    go_wp2
    go_ret
    exact ⟨rfl, below_alloc (below_alloc (Below.refl _ _) _) _⟩
  by_cases hq3 : g < 0
  · rw [if_pos (by simp [hq3])]
    go_enter Try.func27, Try.ntmps27
    go_wp2
    go_ret
    exact ⟨rfl, below_alloc (below_alloc (Below.refl _ _) _) _⟩
  by_cases hq4 : 30 < g
  · rw [if_pos (by simp [hq4])]
    go_enter Try.func27, Try.ntmps27
    go_wp2
    go_ret
    exact ⟨rfl, below_alloc (below_alloc (Below.refl _ _) _) _⟩
  by_cases hq5 : 0 < g ∧ k ≠ 6
  · rw [if_pos (by simp [hq5])]
    obtain ⟨hq6, hq7⟩ := hq5
    have hq8 : (k != 6) = true := by simpa using hq7
    go_enter Try.func27, Try.ntmps27
    go_wp2
    go_ret
    exact ⟨rfl, below_alloc (below_alloc (Below.refl _ _) _) _⟩
  rw [if_neg (by simp only [not_or]; exact ⟨hq0, hq1, hq2, hq3, hq4, hq5⟩)]
  have hkk : k = 1 ∨ k = 2 ∨ k = 3 ∨ k = 4 ∨ k = 5 ∨ k = 6 := by omega
  have hg : k = 6 ∨ g = 0 := by omega
  have hlc : ((l - 1 : Nat) : Int) + 1 = l := by omega
  have hG2 : ∀ o : Obj, ((w.alloc o).alloc (.cells #[.int .i64 (l : Int)] 3 (0, 0))).heap[w.heap.size + 1]? = some (.cells #[.int .i64 (((l - 1 : Nat) : Int) + 1)] 3 (0, 0)) := fun o => by rw [hlc]; exact blk_new2 w o _
  replace hG2 := Aside0.mk hG2
  rcases hkk with rfl | rfl | rfl | rfl | rfl | rfl
  · obtain rfl : g = 0 := by omega
    go_enter Try.func27, Try.ntmps27
    go_wp2
    all_goals (
      go_ret
      refine ⟨?_, below_alloc (below_alloc (Below.refl _ _) _) _⟩
      simp [*])
  · obtain rfl : g = 0 := by omega
    go_enter Try.func27, Try.ntmps27
    go_wp2
    all_goals (
      go_ret
      refine ⟨?_, below_alloc (below_alloc (Below.refl _ _) _) _⟩
      simp [*])
  · obtain rfl : g = 0 := by omega
    go_enter Try.func27, Try.ntmps27
    go_wp2_with (go_at_call 39; refine (hpl.out _ hs).mono ?_; rintro e w3 ⟨rfl, hb⟩; have hb3 := Aside0.mk (below_step (below_alloc (below_alloc (Below.refl _ _) _) _) hb); clear hb)
    all_goals (
      go_ret
      refine ⟨?_, by first | exact hb3.out | exact below_alloc (below_alloc (Below.refl _ _) _) _⟩
      simp [*])
  · obtain rfl : g = 0 := by omega
    go_enter Try.func27, Try.ntmps27
    go_wp2
    all_goals (
      go_ret
      refine ⟨?_, below_alloc (below_alloc (Below.refl _ _) _) _⟩
      simp [*])
  · obtain rfl : g = 0 := by omega
    go_enter Try.func27, Try.ntmps27
    go_wp2_with (go_at_call 40; refine (hin.out (w.heap.size + 1) _ (Kd.C_below hk.out (below_alloc (below_alloc (Below.refl _ _) _) _)) hc (hG2.out _)).mono ?_; rintro e w3 ⟨rfl, hb⟩; have hb3 := Aside0.mk (below_step (below_alloc (below_alloc (Below.refl _ _) _) _) hb); clear hb)
    all_goals (
      go_ret
      refine ⟨?_, by first | exact hb3.out | exact below_alloc (below_alloc (Below.refl _ _) _) _⟩
      simp [*])
  · by_cases hg0 : 0 < g
    all_goals (
      go_enter Try.func27, Try.ntmps27
      go_wp2_with (go_at_call 40; refine (hin.out (w.heap.size + 1) _ (Kd.C_below hk.out (below_alloc (below_alloc (Below.refl _ _) _) _)) hc (hG2.out _)).mono ?_; rintro e w3 ⟨rfl, hb⟩; have hb3 := Aside0.mk (below_step (below_alloc (below_alloc (Below.refl _ _) _) _) hb); clear hb)
      all_goals (
        go_ret
        refine ⟨?_, by first | exact hb3.out | exact below_alloc (below_alloc (Below.refl _ _) _) _⟩
        simp [*]))
mutual
theorem right_calls : ∀ t : S24, PRight t
  | ⟨k, n, s, g, ts⟩ => right_of k n s g ts (all_right ts)
theorem all_right : ∀ (ts : List S24), ∀ t ∈ ts, PRight t
  | [], t, h => absurd h (by simp)
  | t' :: r, t, h => by
    rcases List.mem_cons.1 h with h1 | h1
    · rw [h1]; exact right_calls t'
    · exact all_right r t h1
end
end Go.Proofs.Ytpphoifjhhidfaa.Der
