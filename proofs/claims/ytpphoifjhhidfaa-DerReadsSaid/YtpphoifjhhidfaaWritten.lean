/- der.idents, der.content, der.written. -/
import Derived.Test.YtpphoifjhhidfaaConcat
import Derived.Test.YtpphoifjhhidfaaGreadx0
namespace Go.Proofs.Ytpphoifjhhidfaa.Der
set_option linter.unusedVariables false
set_option linter.unusedSimpArgs false
open Go.RowKit
open Go.Proofs.YtpphoifjhhidfaaW.PrintWords
open Go.Proofs.YtpphoifjhhidfaaW.PrintLast
open Go.Proofs.YtpphoifjhhidfaaW.PrintMore
open Go.Proofs.Ytpphoifjhhidfaa.Gread (der_number.f der_number.calls der_length.f der_length.calls)
set_option maxHeartbeats 2000000 in
theorem idents_calls (w : World) : Calls Try.prog 35 #[] w fun e w' => e = .returned (.agg #[.int .u8 0, .int .u8 2, .int .u8 4, .int .u8 12, .int .u8 1, .int .u8 48, .int .u8 160]) ∧ Below w.heap.size w w' := by
  go_enter Try.func35, Try.ntmps35
  go_wp2
  (try simp only [Exit.inBlock, Exit.then])
  refine bodyPost_ret (results_cell_row rfl _ _ _ _ _ _ _ rfl (heap_alloc_new w _) Try.underlying61 rfl (by kernel_rfl)) rfl ?_
  exact ⟨rfl, below_alloc (Below.refl _ _) _⟩
def identL (k : Int) : Int := if k = 1 then 2 else if k = 2 then 4 else if k = 3 then 12 else if k = 4 then 1 else if k = 5 then 48 else 160
theorem identL_1 : identL 1 = 2 := by decide
theorem identL_2 : identL 2 = 4 := by decide
theorem identL_3 : identL 3 = 12 := by decide
theorem identL_4 : identL 4 = 1 := by decide
theorem identL_5 : identL 5 = 48 := by decide
theorem identL_6 : identL 6 = 160 := by decide
theorem ix_1 (W : World) : (Instr.index 61 (.agg #[.int .u8 0, .int .u8 2, .int .u8 4, .int .u8 12, .int .u8 1, .int .u8 48, .int .u8 160]) (.int .i64 1)).run Try.prog W = .ok (.int .u8 2) W := by kernel_rfl
theorem ix_2 (W : World) : (Instr.index 61 (.agg #[.int .u8 0, .int .u8 2, .int .u8 4, .int .u8 12, .int .u8 1, .int .u8 48, .int .u8 160]) (.int .i64 2)).run Try.prog W = .ok (.int .u8 4) W := by kernel_rfl
theorem ix_3 (W : World) : (Instr.index 61 (.agg #[.int .u8 0, .int .u8 2, .int .u8 4, .int .u8 12, .int .u8 1, .int .u8 48, .int .u8 160]) (.int .i64 3)).run Try.prog W = .ok (.int .u8 12) W := by kernel_rfl
theorem ix_4 (W : World) : (Instr.index 61 (.agg #[.int .u8 0, .int .u8 2, .int .u8 4, .int .u8 12, .int .u8 1, .int .u8 48, .int .u8 160]) (.int .i64 4)).run Try.prog W = .ok (.int .u8 1) W := by kernel_rfl
theorem ix_5 (W : World) : (Instr.index 61 (.agg #[.int .u8 0, .int .u8 2, .int .u8 4, .int .u8 12, .int .u8 1, .int .u8 48, .int .u8 160]) (.int .i64 5)).run Try.prog W = .ok (.int .u8 48) W := by kernel_rfl
theorem ix_6 (W : World) : (Instr.index 61 (.agg #[.int .u8 0, .int .u8 2, .int .u8 4, .int .u8 12, .int .u8 1, .int .u8 48, .int .u8 160]) (.int .i64 6)).run Try.prog W = .ok (.int .u8 160) W := by kernel_rfl
def contF (k n : Int) (s : ByteArray) (m : Option (List Int)) : Option (List Int) :=
  if k = 1 then der_number.f 64 n
  else if k = 4 then some [wrap64 (-n) % 256]
  else if k = 2 ∨ k = 3 then (if s.size < 9223372036854775807 then some (bytesOf s) else none)
  else m
def headF (k g : Int) (c : List Int) : Option (List Int) :=
  if 1 ≤ k ∧ k ≤ 6 ∧ c.length < 70368744177664 then (der_length.f 64 (c.length : Int)).bind fun l => if l.length < 1000 then some ((identL k + g % 256) % 256 :: (l ++ c)) else none else none
mutual
def wrO : S24 → Option (List Int)
  | ⟨k, n, s, g, ts⟩ => (contF k n s (wrL ts [])).bind (headF k g)
def wrL : List S24 → List Int → Option (List Int)
  | [], acc => some acc
  | t :: r, acc => (wrO t).bind fun x => if acc.length + x.length < 70368744177664 then wrL r (acc ++ x) else none
end
def PCont (t : S24) : Prop := szT t ≤ 4611686018427387904 → ∀ (r : List Int), contF t.f0 t.f1 t.f2 (wrL t.f4 []) = some r → ∀ (A : Option Addr) (c : Nat) (w : World), Kd.C k24 w A t.f4.length t.f4 → t.f4.length ≤ c → Calls Try.prog 33 #[nodeV t A c] w fun e w' => (∃ A' c', e = .returned (.slice A' r.length c') ∧ r.length ≤ c' ∧ Kd.C (Kd.int .u8) w' A' r.length r) ∧ Below w.heap.size w w'
def PWr (t : S24) : Prop := szT t ≤ 4611686018427387904 → ∀ (r : List Int), wrO t = some r → ∀ (A : Option Addr) (c : Nat) (w : World), Kd.C k24 w A t.f4.length t.f4 → t.f4.length ≤ c → Calls Try.prog 25 #[nodeV t A c] w fun e w' => ∃ v, e = .returned v ∧ Kd.R (Kd.int .u8) 5 w' w.heap.size (fun _ => True) v r ∧ Below w.heap.size w w'
theorem R_part {w : World} {base : Nat} {v : Value} {r : List Int} (h : Kd.R (Kd.int .u8) 5 w base (fun _ => True) v r) : ∃ A c, v = .slice A r.length c ∧ r.length ≤ c ∧ Kd.C (Kd.int .u8) w A r.length r := by
  obtain ⟨A, c, rfl⟩ := Kd.R_slice h
  exact ⟨A, c, rfl, (Kd.R_reads' h).2.1, (Kd.R_reads' h).2.2⟩
theorem C_one2 {W : World} {B : Nat} (y : Int) {x : Int} (hv : y = x) (h : W.cell? ⟨B, 0, none⟩ = some (.int .u8 y)) : Kd.C (Kd.int .u8) W (some ⟨B, 0, none⟩) 1 [x] := by
  subst hv
  refine Kd.C_of_reads (h1 := fun _ => rfl) (readsInt_of.1 ⟨rfl, by omega, fun _ => ⟨_, rfl, fun j hj => ?_⟩⟩)
  obtain rfl : j = 0 := by omega
  exact h
theorem C_one {W : World} {B : Nat} {x : Int} (h : W.cell? ⟨B, 0, none⟩ = some (.int .u8 x)) : Kd.C (Kd.int .u8) W (some ⟨B, 0, none⟩) 1 [x] := by
  refine Kd.C_of_reads (h1 := fun _ => rfl) (readsInt_of.1 ⟨rfl, by omega, fun _ => ⟨_, rfl, fun j hj => ?_⟩⟩)
  obtain rfl : j = 0 := by omega
  exact h
def RelW (w : World) (ts : List S24) (r : List Int) (v3 v29 : Value) (W : World) : Prop := ∃ (j : Nat) (acc : List Int), j ≤ ts.length ∧ v29 = .int .i64 j ∧ wrL (ts.drop j) acc = some r ∧ Kd.R (Kd.int .u8) 5 W w.heap.size (fun _ => True) v3 acc ∧ Below w.heap.size w W
set_option maxHeartbeats 2000000 in
set_option maxRecDepth 100000 in
theorem content_of (k n : Int) (s : ByteArray) (g : Int) (ts : List S24) (IH : ∀ t ∈ ts, PWr t) : PCont ⟨k, n, s, g, ts⟩ := by
  intro hsz r hr A c w hk hc
  rw [szT] at hsz
  have hu24 := Try.underlying24
  dsimp only at hk hc hr
  have hlen : ts.length ≤ szL ts := szL_len ts
  replace hk := Aside0.mk hk
  replace IH := Aside0.mk IH
  dsimp only [nodeV]
  rw [contF] at hr
  by_cases h1 : k = 1
  · subst h1
    rw [if_pos rfl] at hr
    go_enter Try.func33, Try.ntmps33
    go_wp2_with (go_at_call 46; refine (der_number.calls 64 n r _ hr).mono ?_; rintro e w3 ⟨v, rfl, hR, hb⟩; have m1 := Aside0.mk hR; have hb3 := Aside0.mk (below_step (below_alloc (Below.refl _ _) _) hb); clear hb hR)
    go_ret
    obtain ⟨A1, c1, rfl, h2, h3⟩ := R_part m1.out
    exact ⟨⟨A1, c1, rfl, h2, h3⟩, hb3.out⟩
  rw [if_neg h1] at hr
  by_cases h4 : k = 4
  · subst h4
    rw [if_pos rfl] at hr
    obtain rfl := Option.some.inj hr
    go_enter Try.func33, Try.ntmps33
    go_wp2
    go_ret
    refine ⟨⟨_, 1, rfl, Nat.le_refl _, ?_⟩, ?_⟩
    · exact C_one (blk_cell (blk_new2 w _ _) 0)
    · exact below_alloc (below_alloc (Below.refl _ _) _) _
  rw [if_neg h4] at hr
  by_cases h23 : k = 2 ∨ k = 3
  · rw [if_pos h23] at hr
    by_cases hs : s.size < 9223372036854775807
    · rw [if_pos hs] at hr
      obtain rfl := Option.some.inj hr
      have kb := fun W => print_bytes (P := Try.prog) 9 27 5 Try.underlying9 Try.underlying27 Try.underlying5 s W
      have hl : (bytesOf s).length = s.size := bytesOf_length s
      have hpack : ∀ (A' : Option Addr) (c' : Nat) (W : World), s.size ≤ c' → Kd.C (Kd.int .u8) W A' s.size (bytesOf s) → ∃ A'' c'', Ending.returned (.slice A' s.size c') = .returned (.slice A'' (bytesOf s).length c'') ∧ (bytesOf s).length ≤ c'' ∧ Kd.C (Kd.int .u8) W A'' (bytesOf s).length (bytesOf s) := by
        intro A' c' W q1 q2
        rw [hl]
        exact ⟨_, _, rfl, q1, q2⟩
      have hrd : ∀ o, Kd.C (Kd.int .u8) (Lib.bytesWorld (w.alloc o) 5 s) (some ⟨w.heap.size + 1, 0, none⟩) s.size (bytesOf s) := fun o => by
        have h := bytes_reads (w.alloc o) 5 s (by omega)
        rw [World.size_alloc] at h
        exact Kd.C_of_reads (h1 := fun _ => rfl) (readsInt_of.1 h)
      rcases h23 with rfl | rfl
      all_goals (
        go_enter Try.func33, Try.ntmps33
        go_wp2
        go_ret
        refine ⟨?_, ?_⟩
        · show ∃ A'' c'', Ending.returned (.slice (some ⟨w.heap.size + 1, 0, none⟩) s.size (grownCap (w.alloc _) s.size 0 5)) = _ ∧ _ ∧ _
          first | exact ⟨_, _, rfl, grownCap_ge .., hrd _⟩ | exact hpack _ _ _ (grownCap_ge ..) (hrd _)
        exact bytes_below (below_alloc (Below.refl _ _) _) (by rw [World.size_alloc]; omega) _ _)
    · rw [if_neg hs] at hr
      exact absurd hr (by simp)
  rw [if_neg h23] at hr
  obtain ⟨h2, h3⟩ := not_or.1 h23
  have e1 : (k == 1) = false := by simpa using h1
  have e2 : (k == 2) = false := by simpa using h2
  have e3 : (k == 3) = false := by simpa using h3
  have e4 : (k == 4) = false := by simpa using h4
  go_enter Try.func33, Try.ntmps33
  go_wp2
  go_loopw [3, 29] (RelW w ts r) (fun _ v _ => (ts.length - intOf v).toNat)
  case atStart => exact ⟨0, [], by omega, rfl, hr, Kd.R_nil _ _ _ _ _, below_alloc (Below.refl _ _) _⟩
  case round =>
    obtain ⟨j, acc, hj, rfl, hrj, hR, hb⟩ := hrel
    replace hb := Aside0.mk hb
    replace hR := Aside0.mk hR
    by_cases hjl : (j : Int) < ts.length
    · obtain ⟨ad, A4, c4, e1, hx0, hx1, hx2, hx3, hx4, hl4, hi4⟩ := at_T24 hk.out j (by omega) hjl
      subst e1
      replace hx0 := (hb.out.cell (World.block_lt_of_cell? w _ hx0)).trans hx0
      replace hx1 := (hb.out.cell (World.block_lt_of_cell? w _ hx1)).trans hx1
      replace hx2 := (hb.out.cell (World.block_lt_of_cell? w _ hx2)).trans hx2
      replace hx3 := (hb.out.cell (World.block_lt_of_cell? w _ hx3)).trans hx3
      replace hx4 := (hb.out.cell (World.block_lt_of_cell? w _ hx4)).trans hx4
      have hjn : j < ts.length := by omega
      have hIH := Aside0.mk (IH.out _ (getD_mem ts j hjn) (Nat.le_trans (szL_mem ts _ (getD_mem ts j hjn)) (by omega)))
      have e1 : rd_T24 ts (j : Int) = ts.getD j z24 := rfl
      have hdr : ts.drop j = ts.getD j z24 :: ts.drop (j + 1) := by
        rw [List.drop_eq_getElem_cons hjn]; simp [List.getD_eq_getElem?_getD, hjn]
      rw [hdr, wrL] at hrj
      clear hdr
      rw [e1] at hx0 hx1 hx2 hx3 hx4 hl4 hi4
      clear e1
      simp only [Int.toNat_natCast] at hx0 hx1 hx2 hx3 hx4
      generalize hq : ts.getD j z24 = t at *
      replace hi4 := Aside0.mk hi4
      obtain ⟨x, hx, hrj⟩ := Option.bind_eq_some_iff.mp hrj
      by_cases hlx : acc.length + x.length < 70368744177664
      · rw [if_pos hlx] at hrj
        replace hrj := Aside0.mk hrj
        replace hx := Aside0.mk hx
        go_wp2_with (first | ((with_reducible refine gate_builtin (b := .append) (xs := #[.tmp 33, .tmp 35]) rfl ?_); (try (refine gate_guard (by rfl) ?_; dsimp only)); at_builtin; refine Kd.R_append_row (Value.int .u8) (0 : Int) (w0 := w) w.heap.size rfl (.tmp 33) (.tmp 35) 27 5 (.int .u8 0) 1 rfl Try.underlying27 info5 rfl (by omega) _ acc x A3 x.length c3 (fun _ => True) rfl rfl (fun _ _ => trivial) m3.out m4.out hb3.out hb3.out.size (by omega) ?_; intro v1 w1 ho hb1 hg hat; have m5 := Aside0.mk ho; have hb5 := Aside0.mk hb1; clear ho hb1 hg hat) | (go_at_call 25; refine (hIH.out x hx.out A4 c4 _ (Kd.C_below hi4.out (below_alloc hb.out _)) hl4).mono ?_; rintro e w3 ⟨v, rfl, hR3, hb2⟩; have hb3 := Aside0.mk (below_step (below_alloc hb.out _) hb2); have m3 := Aside0.mk (Kd.R_below (Kd.R_alloc hR.out _) hb2); obtain ⟨A3, c3, rfl, hle3, hC3⟩ := R_part hR3; have m4 := Aside0.mk hC3; clear hb2 hR3 hC3))
        try rw [show wrap64 ((j : Int) + 1) = (j : Int) + 1 by unfold wrap64; omega]
        refine ⟨⟨j + 1, acc ++ x, by omega, rfl, hrj.out, m5.out, hb5.out⟩, ?_⟩
        simp only [intOf]; omega
      · rw [if_neg hlx] at hrj
        exact absurd hrj (by simp)
    · obtain rfl : j = ts.length := by omega
      rw [List.drop_length, wrL] at hrj
      obtain rfl := Option.some.inj hrj
      go_wp2
      go_ret
      obtain ⟨A1, c1, rfl, h2, h3⟩ := R_part hR.out
      exact ⟨⟨A1, c1, rfl, h2, h3⟩, hb.out⟩
theorem parts3 {W : World} {B : Nat} {A1 A2 A3 : Option Addr} {c1 c2 c3 : Nat} {l1 l2 l3 : List Int} (hB : W.heap[B]? = some (.cells #[.slice A1 l1.length c1, .slice A2 l2.length c2, .slice A3 l3.length c3] 27 (0, 0))) (h1 : l1.length ≤ c1) (h2 : l2.length ≤ c2) (h3 : l3.length ≤ c3) (g1 : Kd.C (Kd.int .u8) W A1 l1.length l1) (g2 : Kd.C (Kd.int .u8) W A2 l2.length l2) (g3 : Kd.C (Kd.int .u8) W A3 l3.length l3) : PartsAt W B [(A1, c1, l1), (A2, c2, l2), (A3, c3, l3)] := by
  intro j hj
  rcases j with _ | _ | _ | j
  · exact ⟨blk_cell hB 0, h1, g1⟩
  · exact ⟨blk_cell hB 1, h2, g2⟩
  · exact ⟨blk_cell hB 2, h3, g3⟩
  · simp at hj; omega
set_option maxHeartbeats 10000000 in
set_option maxRecDepth 100000 in
theorem written_of (k n : Int) (s : ByteArray) (g : Int) (ts : List S24) (IH : PCont ⟨k, n, s, g, ts⟩) : PWr ⟨k, n, s, g, ts⟩ := by
  intro hsz r hr A c w hk hc
  have hu24 := Try.underlying24
  have hu27 := Try.underlying27
  have hu61 := Try.underlying61
  dsimp only at hk hc
  rw [wrO] at hr
  obtain ⟨x, hx, hr⟩ := Option.bind_eq_some_iff.mp hr
  rw [headF] at hr
  by_cases hg : 1 ≤ k ∧ k ≤ 6 ∧ x.length < 70368744177664
  · rw [if_pos hg] at hr
    obtain ⟨hg1, hg2, hg3⟩ := hg
    obtain ⟨l, hl, hr⟩ := Option.bind_eq_some_iff.mp hr
    by_cases hl2 : l.length < 1000
    · rw [if_pos hl2] at hr
      obtain rfl := Option.some.inj hr
      clear hr
      have IH2 := Aside0.mk (IH hsz x hx A c)
      clear hsz hx IH
      replace hk := Aside0.mk hk
      replace hl := Aside0.mk hl
      have hkk : k = 1 ∨ k = 2 ∨ k = 3 ∨ k = 4 ∨ k = 5 ∨ k = 6 := by omega
      have fin : ∀ (B : Nat) (A1 A2 A3 : Option Addr) (c2 c3 : Nat) (W : World), W.heap[B]? = some (.cells #[.slice A1 1 1, .slice A2 l.length c2, .slice A3 x.length c3] 27 (0, 0)) → l.length ≤ c2 → x.length ≤ c3 → Kd.C (Kd.int .u8) W A1 1 [(identL k + g % 256) % 256] → Kd.C (Kd.int .u8) W A2 l.length l → Kd.C (Kd.int .u8) W A3 x.length x → Calls Try.prog 34 #[.slice (some ⟨B, 0, none⟩) 3 3] W fun e w' => ∃ v : Value, e = .returned v ∧ Kd.R (Kd.int .u8) 5 w' W.heap.size (fun _ => True) v ((identL k + g % 256) % 256 :: (l ++ x)) ∧ Below W.heap.size W w' := by
        intro B A1 A2 A3 c2 c3 W hB q2 q3 f1 f2 f3
        have h := concat_calls [(A1, 1, [(identL k + g % 256) % 256]), (A2, c2, l), (A3, c3, x)] B W (parts3 (l1 := [(identL k + g % 256) % 256]) hB (by simp) q2 q3 f1 f2 f3) (by simp) (by simp [catP]) (by simp [catP]; omega)
        have e : catP [(A1, 1, [(identL k + g % 256) % 256]), (A2, c2, l), (A3, c3, x)] = (identL k + g % 256) % 256 :: (l ++ x) := by simp [catP]
        rw [e] at h
        exact h
      dsimp only [nodeV]
      rcases hkk with rfl | rfl | rfl | rfl | rfl | rfl
      · have hix := ix_1
        have hv : IntKind.u8.wrap (2 + IntKind.u8.wrap g) = (2 + g % 256) % 256 := by rw [IntKind.wrap_u8, IntKind.wrap_u8]
        replace hv := Aside0.mk hv
        simp only [identL_1] at fin ⊢
        replace fin := Aside0.mk fin
        go_enter Try.func25, Try.ntmps25
        go_wp2_with (go_at_call 33; refine (IH2.out _ (Kd.C_below hk.out (below_alloc (Below.refl _ _) _)) hc).mono ?_; rintro e w1 ⟨⟨A3, c3, rfl, hc3, hC3⟩, hb⟩; have hb1 := Aside0.mk (below_step (below_alloc (Below.refl _ _) _) hb); have m1 := Aside0.mk hC3; have hcell := Aside0.mk (blk_below (blk_new w _) hb); clear hC3 hb)
        have hS : ∀ W, Below w1.heap.size w1 W → W.cell? ⟨w.heap.size, 0, none⟩ = w1.cell? ⟨w.heap.size, 0, none⟩ ∧ W.cell? ⟨w.heap.size, 3, none⟩ = w1.cell? ⟨w.heap.size, 3, none⟩ := fun W hW => ⟨hW.cell (blk_lt hcell.out), hW.cell (blk_lt hcell.out)⟩
        have hc0 := (blk_cell hcell.out 0)
        have hc4 := (blk_cell hcell.out 3)
        simp only [List.getElem?_toArray, List.getElem?_cons_zero, List.getElem?_cons_succ] at hc0 hc4
        rw [hc0, hc4] at hS
        replace hS := Aside0.mk hS
        clear hc0 hc4
        go_region_held3 (fun w' => w'.cell? ⟨w.heap.size, 0, none⟩ = some (.int .i64 1) ∧ w'.cell? ⟨w.heap.size, 3, none⟩ = some (.int .i64 g))
          (first
            | exact hS.out _ (below_drew1 (Below.refl _ _))
            | exact hS.out _ (by first | exact hb6.out | exact below_alloc hb6.out _ | exact below_alloc (below_alloc hb6.out _) _)
            | exact hS.out _ (by first | exact hb4.out | exact below_alloc hb4.out _ | exact below_alloc (below_alloc hb4.out _) _)
            | exact hS.out _ (by first | exact hb2.out | exact below_alloc hb2.out _ | exact below_alloc (below_alloc hb2.out _) _)
            | assumption)
          (first
            | (go_at_call 34; with_reducible refine Calls.mono (fin.out w3.heap.size (some ⟨w2.heap.size, 0, none⟩) A2 A3 c2 c3 (w3.alloc _) ?g1 hle2 hc3 ?g2 ?g3 ?g4) ?_; (case g1 => exact blk_new w3 _); (case g2 => exact C_one2 (IntKind.u8.wrap (2 + IntKind.u8.wrap g)) hv.out ((blk_cell (blk_alloc c14.out _) 0).trans rfl)); (case g3 => exact Kd.C_below m4.out (below_alloc (Below.refl _ _) _)); (case g4 => exact Kd.C_below m1.out (below_alloc hb4.out _)); rintro e w5 ⟨v, rfl, hR, hb⟩; have m6 := Aside0.mk (Kd.R_lower (base' := w.heap.size) hR (by simp only [World.size_alloc]; have := hb1.out.size; have := hb4.out.size; omega)); have hb6 := Aside0.mk (below_step (below_alloc hb4.out _) hb); clear hR hb)
            | (go_at_call 34; with_reducible refine Calls.mono (fin.out (w3.heap.size + 1) (some ⟨w3.heap.size, 0, none⟩) A2 A3 c2 c3 ((w3.alloc _).alloc _) ?g1 hle2 hc3 ?g2 ?g3 ?g4) ?_; (case g1 => exact blk_new2 w3 _ _); (case g2 => exact C_one2 (IntKind.u8.wrap (2 + IntKind.u8.wrap g)) hv.out ((blk_cell (blk_alloc (blk_new w3 _) _) 0).trans rfl)); (case g3 => exact Kd.C_below m4.out (below_alloc (below_alloc (Below.refl _ _) _) _)); (case g4 => exact Kd.C_below m1.out (below_alloc (below_alloc hb4.out _) _)); rintro e w5 ⟨v, rfl, hR, hb⟩; have m6 := Aside0.mk (Kd.R_lower (base' := w.heap.size) hR (by simp only [World.size_alloc]; have := hb1.out.size; have := hb4.out.size; omega)); have hb6 := Aside0.mk (below_step (below_alloc (below_alloc hb4.out _) _) hb); clear hR hb)
            | (go_at_call 36; with_reducible refine Calls.mono (der_length.calls 64 _ l (w2.alloc _) hl.out) ?_; rintro e w3 ⟨v, rfl, hR, hb⟩; obtain ⟨A2, c2, rfl, hle2, hC2⟩ := R_part hR; have hb4 := Aside0.mk (below_step (below_alloc hb2.out _) hb); have m4 := Aside0.mk hC2; have c14 := Aside0.mk (blk_below (blk_new w2 _) hb); clear hR hb hC2)
            | (go_at_call 36; with_reducible refine Calls.mono (der_length.calls 64 _ l w2 hl.out) ?_; rintro e w3 ⟨v, rfl, hR, hb⟩; obtain ⟨A2, c2, rfl, hle2, hC2⟩ := R_part hR; have hb4 := Aside0.mk (below_step hb2.out hb); have m4 := Aside0.mk hC2; clear hR hb hC2)
            | (go_at_call 35; refine (idents_calls _).mono ?_; rintro e w2 ⟨rfl, hb⟩; have hb2 := Aside0.mk (below_step (below_drew1 (Below.refl _ _)) hb); clear hb))
        all_goals (
          go_wp2
          go_ret
          exact ⟨_, rfl, m6.out, below_step hb1.out hb6.out⟩)
      · have hix := ix_2
        have hv : IntKind.u8.wrap (4 + IntKind.u8.wrap g) = (4 + g % 256) % 256 := by rw [IntKind.wrap_u8, IntKind.wrap_u8]
        replace hv := Aside0.mk hv
        simp only [identL_2] at fin ⊢
        replace fin := Aside0.mk fin
        go_enter Try.func25, Try.ntmps25
        go_wp2_with (go_at_call 33; refine (IH2.out _ (Kd.C_below hk.out (below_alloc (Below.refl _ _) _)) hc).mono ?_; rintro e w1 ⟨⟨A3, c3, rfl, hc3, hC3⟩, hb⟩; have hb1 := Aside0.mk (below_step (below_alloc (Below.refl _ _) _) hb); have m1 := Aside0.mk hC3; have hcell := Aside0.mk (blk_below (blk_new w _) hb); clear hC3 hb)
        have hS : ∀ W, Below w1.heap.size w1 W → W.cell? ⟨w.heap.size, 0, none⟩ = w1.cell? ⟨w.heap.size, 0, none⟩ ∧ W.cell? ⟨w.heap.size, 3, none⟩ = w1.cell? ⟨w.heap.size, 3, none⟩ := fun W hW => ⟨hW.cell (blk_lt hcell.out), hW.cell (blk_lt hcell.out)⟩
        have hc0 := (blk_cell hcell.out 0)
        have hc4 := (blk_cell hcell.out 3)
        simp only [List.getElem?_toArray, List.getElem?_cons_zero, List.getElem?_cons_succ] at hc0 hc4
        rw [hc0, hc4] at hS
        replace hS := Aside0.mk hS
        clear hc0 hc4
        go_region_held3 (fun w' => w'.cell? ⟨w.heap.size, 0, none⟩ = some (.int .i64 2) ∧ w'.cell? ⟨w.heap.size, 3, none⟩ = some (.int .i64 g))
          (first
            | exact hS.out _ (below_drew1 (Below.refl _ _))
            | exact hS.out _ (by first | exact hb6.out | exact below_alloc hb6.out _ | exact below_alloc (below_alloc hb6.out _) _)
            | exact hS.out _ (by first | exact hb4.out | exact below_alloc hb4.out _ | exact below_alloc (below_alloc hb4.out _) _)
            | exact hS.out _ (by first | exact hb2.out | exact below_alloc hb2.out _ | exact below_alloc (below_alloc hb2.out _) _)
            | assumption)
          (first
            | (go_at_call 34; with_reducible refine Calls.mono (fin.out w3.heap.size (some ⟨w2.heap.size, 0, none⟩) A2 A3 c2 c3 (w3.alloc _) ?g1 hle2 hc3 ?g2 ?g3 ?g4) ?_; (case g1 => exact blk_new w3 _); (case g2 => exact C_one2 (IntKind.u8.wrap (4 + IntKind.u8.wrap g)) hv.out ((blk_cell (blk_alloc c14.out _) 0).trans rfl)); (case g3 => exact Kd.C_below m4.out (below_alloc (Below.refl _ _) _)); (case g4 => exact Kd.C_below m1.out (below_alloc hb4.out _)); rintro e w5 ⟨v, rfl, hR, hb⟩; have m6 := Aside0.mk (Kd.R_lower (base' := w.heap.size) hR (by simp only [World.size_alloc]; have := hb1.out.size; have := hb4.out.size; omega)); have hb6 := Aside0.mk (below_step (below_alloc hb4.out _) hb); clear hR hb)
            | (go_at_call 34; with_reducible refine Calls.mono (fin.out (w3.heap.size + 1) (some ⟨w3.heap.size, 0, none⟩) A2 A3 c2 c3 ((w3.alloc _).alloc _) ?g1 hle2 hc3 ?g2 ?g3 ?g4) ?_; (case g1 => exact blk_new2 w3 _ _); (case g2 => exact C_one2 (IntKind.u8.wrap (4 + IntKind.u8.wrap g)) hv.out ((blk_cell (blk_alloc (blk_new w3 _) _) 0).trans rfl)); (case g3 => exact Kd.C_below m4.out (below_alloc (below_alloc (Below.refl _ _) _) _)); (case g4 => exact Kd.C_below m1.out (below_alloc (below_alloc hb4.out _) _)); rintro e w5 ⟨v, rfl, hR, hb⟩; have m6 := Aside0.mk (Kd.R_lower (base' := w.heap.size) hR (by simp only [World.size_alloc]; have := hb1.out.size; have := hb4.out.size; omega)); have hb6 := Aside0.mk (below_step (below_alloc (below_alloc hb4.out _) _) hb); clear hR hb)
            | (go_at_call 36; with_reducible refine Calls.mono (der_length.calls 64 _ l (w2.alloc _) hl.out) ?_; rintro e w3 ⟨v, rfl, hR, hb⟩; obtain ⟨A2, c2, rfl, hle2, hC2⟩ := R_part hR; have hb4 := Aside0.mk (below_step (below_alloc hb2.out _) hb); have m4 := Aside0.mk hC2; have c14 := Aside0.mk (blk_below (blk_new w2 _) hb); clear hR hb hC2)
            | (go_at_call 36; with_reducible refine Calls.mono (der_length.calls 64 _ l w2 hl.out) ?_; rintro e w3 ⟨v, rfl, hR, hb⟩; obtain ⟨A2, c2, rfl, hle2, hC2⟩ := R_part hR; have hb4 := Aside0.mk (below_step hb2.out hb); have m4 := Aside0.mk hC2; clear hR hb hC2)
            | (go_at_call 35; refine (idents_calls _).mono ?_; rintro e w2 ⟨rfl, hb⟩; have hb2 := Aside0.mk (below_step (below_drew1 (Below.refl _ _)) hb); clear hb))
        all_goals (
          go_wp2
          go_ret
          exact ⟨_, rfl, m6.out, below_step hb1.out hb6.out⟩)
      · have hix := ix_3
        have hv : IntKind.u8.wrap (12 + IntKind.u8.wrap g) = (12 + g % 256) % 256 := by rw [IntKind.wrap_u8, IntKind.wrap_u8]
        replace hv := Aside0.mk hv
        simp only [identL_3] at fin ⊢
        replace fin := Aside0.mk fin
        go_enter Try.func25, Try.ntmps25
        go_wp2_with (go_at_call 33; refine (IH2.out _ (Kd.C_below hk.out (below_alloc (Below.refl _ _) _)) hc).mono ?_; rintro e w1 ⟨⟨A3, c3, rfl, hc3, hC3⟩, hb⟩; have hb1 := Aside0.mk (below_step (below_alloc (Below.refl _ _) _) hb); have m1 := Aside0.mk hC3; have hcell := Aside0.mk (blk_below (blk_new w _) hb); clear hC3 hb)
        have hS : ∀ W, Below w1.heap.size w1 W → W.cell? ⟨w.heap.size, 0, none⟩ = w1.cell? ⟨w.heap.size, 0, none⟩ ∧ W.cell? ⟨w.heap.size, 3, none⟩ = w1.cell? ⟨w.heap.size, 3, none⟩ := fun W hW => ⟨hW.cell (blk_lt hcell.out), hW.cell (blk_lt hcell.out)⟩
        have hc0 := (blk_cell hcell.out 0)
        have hc4 := (blk_cell hcell.out 3)
        simp only [List.getElem?_toArray, List.getElem?_cons_zero, List.getElem?_cons_succ] at hc0 hc4
        rw [hc0, hc4] at hS
        replace hS := Aside0.mk hS
        clear hc0 hc4
        go_region_held3 (fun w' => w'.cell? ⟨w.heap.size, 0, none⟩ = some (.int .i64 3) ∧ w'.cell? ⟨w.heap.size, 3, none⟩ = some (.int .i64 g))
          (first
            | exact hS.out _ (below_drew1 (Below.refl _ _))
            | exact hS.out _ (by first | exact hb6.out | exact below_alloc hb6.out _ | exact below_alloc (below_alloc hb6.out _) _)
            | exact hS.out _ (by first | exact hb4.out | exact below_alloc hb4.out _ | exact below_alloc (below_alloc hb4.out _) _)
            | exact hS.out _ (by first | exact hb2.out | exact below_alloc hb2.out _ | exact below_alloc (below_alloc hb2.out _) _)
            | assumption)
          (first
            | (go_at_call 34; with_reducible refine Calls.mono (fin.out w3.heap.size (some ⟨w2.heap.size, 0, none⟩) A2 A3 c2 c3 (w3.alloc _) ?g1 hle2 hc3 ?g2 ?g3 ?g4) ?_; (case g1 => exact blk_new w3 _); (case g2 => exact C_one2 (IntKind.u8.wrap (12 + IntKind.u8.wrap g)) hv.out ((blk_cell (blk_alloc c14.out _) 0).trans rfl)); (case g3 => exact Kd.C_below m4.out (below_alloc (Below.refl _ _) _)); (case g4 => exact Kd.C_below m1.out (below_alloc hb4.out _)); rintro e w5 ⟨v, rfl, hR, hb⟩; have m6 := Aside0.mk (Kd.R_lower (base' := w.heap.size) hR (by simp only [World.size_alloc]; have := hb1.out.size; have := hb4.out.size; omega)); have hb6 := Aside0.mk (below_step (below_alloc hb4.out _) hb); clear hR hb)
            | (go_at_call 34; with_reducible refine Calls.mono (fin.out (w3.heap.size + 1) (some ⟨w3.heap.size, 0, none⟩) A2 A3 c2 c3 ((w3.alloc _).alloc _) ?g1 hle2 hc3 ?g2 ?g3 ?g4) ?_; (case g1 => exact blk_new2 w3 _ _); (case g2 => exact C_one2 (IntKind.u8.wrap (12 + IntKind.u8.wrap g)) hv.out ((blk_cell (blk_alloc (blk_new w3 _) _) 0).trans rfl)); (case g3 => exact Kd.C_below m4.out (below_alloc (below_alloc (Below.refl _ _) _) _)); (case g4 => exact Kd.C_below m1.out (below_alloc (below_alloc hb4.out _) _)); rintro e w5 ⟨v, rfl, hR, hb⟩; have m6 := Aside0.mk (Kd.R_lower (base' := w.heap.size) hR (by simp only [World.size_alloc]; have := hb1.out.size; have := hb4.out.size; omega)); have hb6 := Aside0.mk (below_step (below_alloc (below_alloc hb4.out _) _) hb); clear hR hb)
            | (go_at_call 36; with_reducible refine Calls.mono (der_length.calls 64 _ l (w2.alloc _) hl.out) ?_; rintro e w3 ⟨v, rfl, hR, hb⟩; obtain ⟨A2, c2, rfl, hle2, hC2⟩ := R_part hR; have hb4 := Aside0.mk (below_step (below_alloc hb2.out _) hb); have m4 := Aside0.mk hC2; have c14 := Aside0.mk (blk_below (blk_new w2 _) hb); clear hR hb hC2)
            | (go_at_call 36; with_reducible refine Calls.mono (der_length.calls 64 _ l w2 hl.out) ?_; rintro e w3 ⟨v, rfl, hR, hb⟩; obtain ⟨A2, c2, rfl, hle2, hC2⟩ := R_part hR; have hb4 := Aside0.mk (below_step hb2.out hb); have m4 := Aside0.mk hC2; clear hR hb hC2)
            | (go_at_call 35; refine (idents_calls _).mono ?_; rintro e w2 ⟨rfl, hb⟩; have hb2 := Aside0.mk (below_step (below_drew1 (Below.refl _ _)) hb); clear hb))
        all_goals (
          go_wp2
          go_ret
          exact ⟨_, rfl, m6.out, below_step hb1.out hb6.out⟩)
      · have hix := ix_4
        have hv : IntKind.u8.wrap (1 + IntKind.u8.wrap g) = (1 + g % 256) % 256 := by rw [IntKind.wrap_u8, IntKind.wrap_u8]
        replace hv := Aside0.mk hv
        simp only [identL_4] at fin ⊢
        replace fin := Aside0.mk fin
        go_enter Try.func25, Try.ntmps25
        go_wp2_with (go_at_call 33; refine (IH2.out _ (Kd.C_below hk.out (below_alloc (Below.refl _ _) _)) hc).mono ?_; rintro e w1 ⟨⟨A3, c3, rfl, hc3, hC3⟩, hb⟩; have hb1 := Aside0.mk (below_step (below_alloc (Below.refl _ _) _) hb); have m1 := Aside0.mk hC3; have hcell := Aside0.mk (blk_below (blk_new w _) hb); clear hC3 hb)
        have hS : ∀ W, Below w1.heap.size w1 W → W.cell? ⟨w.heap.size, 0, none⟩ = w1.cell? ⟨w.heap.size, 0, none⟩ ∧ W.cell? ⟨w.heap.size, 3, none⟩ = w1.cell? ⟨w.heap.size, 3, none⟩ := fun W hW => ⟨hW.cell (blk_lt hcell.out), hW.cell (blk_lt hcell.out)⟩
        have hc0 := (blk_cell hcell.out 0)
        have hc4 := (blk_cell hcell.out 3)
        simp only [List.getElem?_toArray, List.getElem?_cons_zero, List.getElem?_cons_succ] at hc0 hc4
        rw [hc0, hc4] at hS
        replace hS := Aside0.mk hS
        clear hc0 hc4
        go_region_held3 (fun w' => w'.cell? ⟨w.heap.size, 0, none⟩ = some (.int .i64 4) ∧ w'.cell? ⟨w.heap.size, 3, none⟩ = some (.int .i64 g))
          (first
            | exact hS.out _ (below_drew1 (Below.refl _ _))
            | exact hS.out _ (by first | exact hb6.out | exact below_alloc hb6.out _ | exact below_alloc (below_alloc hb6.out _) _)
            | exact hS.out _ (by first | exact hb4.out | exact below_alloc hb4.out _ | exact below_alloc (below_alloc hb4.out _) _)
            | exact hS.out _ (by first | exact hb2.out | exact below_alloc hb2.out _ | exact below_alloc (below_alloc hb2.out _) _)
            | assumption)
          (first
            | (go_at_call 34; with_reducible refine Calls.mono (fin.out w3.heap.size (some ⟨w2.heap.size, 0, none⟩) A2 A3 c2 c3 (w3.alloc _) ?g1 hle2 hc3 ?g2 ?g3 ?g4) ?_; (case g1 => exact blk_new w3 _); (case g2 => exact C_one2 (IntKind.u8.wrap (1 + IntKind.u8.wrap g)) hv.out ((blk_cell (blk_alloc c14.out _) 0).trans rfl)); (case g3 => exact Kd.C_below m4.out (below_alloc (Below.refl _ _) _)); (case g4 => exact Kd.C_below m1.out (below_alloc hb4.out _)); rintro e w5 ⟨v, rfl, hR, hb⟩; have m6 := Aside0.mk (Kd.R_lower (base' := w.heap.size) hR (by simp only [World.size_alloc]; have := hb1.out.size; have := hb4.out.size; omega)); have hb6 := Aside0.mk (below_step (below_alloc hb4.out _) hb); clear hR hb)
            | (go_at_call 34; with_reducible refine Calls.mono (fin.out (w3.heap.size + 1) (some ⟨w3.heap.size, 0, none⟩) A2 A3 c2 c3 ((w3.alloc _).alloc _) ?g1 hle2 hc3 ?g2 ?g3 ?g4) ?_; (case g1 => exact blk_new2 w3 _ _); (case g2 => exact C_one2 (IntKind.u8.wrap (1 + IntKind.u8.wrap g)) hv.out ((blk_cell (blk_alloc (blk_new w3 _) _) 0).trans rfl)); (case g3 => exact Kd.C_below m4.out (below_alloc (below_alloc (Below.refl _ _) _) _)); (case g4 => exact Kd.C_below m1.out (below_alloc (below_alloc hb4.out _) _)); rintro e w5 ⟨v, rfl, hR, hb⟩; have m6 := Aside0.mk (Kd.R_lower (base' := w.heap.size) hR (by simp only [World.size_alloc]; have := hb1.out.size; have := hb4.out.size; omega)); have hb6 := Aside0.mk (below_step (below_alloc (below_alloc hb4.out _) _) hb); clear hR hb)
            | (go_at_call 36; with_reducible refine Calls.mono (der_length.calls 64 _ l (w2.alloc _) hl.out) ?_; rintro e w3 ⟨v, rfl, hR, hb⟩; obtain ⟨A2, c2, rfl, hle2, hC2⟩ := R_part hR; have hb4 := Aside0.mk (below_step (below_alloc hb2.out _) hb); have m4 := Aside0.mk hC2; have c14 := Aside0.mk (blk_below (blk_new w2 _) hb); clear hR hb hC2)
            | (go_at_call 36; with_reducible refine Calls.mono (der_length.calls 64 _ l w2 hl.out) ?_; rintro e w3 ⟨v, rfl, hR, hb⟩; obtain ⟨A2, c2, rfl, hle2, hC2⟩ := R_part hR; have hb4 := Aside0.mk (below_step hb2.out hb); have m4 := Aside0.mk hC2; clear hR hb hC2)
            | (go_at_call 35; refine (idents_calls _).mono ?_; rintro e w2 ⟨rfl, hb⟩; have hb2 := Aside0.mk (below_step (below_drew1 (Below.refl _ _)) hb); clear hb))
        all_goals (
          go_wp2
          go_ret
          exact ⟨_, rfl, m6.out, below_step hb1.out hb6.out⟩)
      · have hix := ix_5
        have hv : IntKind.u8.wrap (48 + IntKind.u8.wrap g) = (48 + g % 256) % 256 := by rw [IntKind.wrap_u8, IntKind.wrap_u8]
        replace hv := Aside0.mk hv
        simp only [identL_5] at fin ⊢
        replace fin := Aside0.mk fin
        go_enter Try.func25, Try.ntmps25
        go_wp2_with (go_at_call 33; refine (IH2.out _ (Kd.C_below hk.out (below_alloc (Below.refl _ _) _)) hc).mono ?_; rintro e w1 ⟨⟨A3, c3, rfl, hc3, hC3⟩, hb⟩; have hb1 := Aside0.mk (below_step (below_alloc (Below.refl _ _) _) hb); have m1 := Aside0.mk hC3; have hcell := Aside0.mk (blk_below (blk_new w _) hb); clear hC3 hb)
        have hS : ∀ W, Below w1.heap.size w1 W → W.cell? ⟨w.heap.size, 0, none⟩ = w1.cell? ⟨w.heap.size, 0, none⟩ ∧ W.cell? ⟨w.heap.size, 3, none⟩ = w1.cell? ⟨w.heap.size, 3, none⟩ := fun W hW => ⟨hW.cell (blk_lt hcell.out), hW.cell (blk_lt hcell.out)⟩
        have hc0 := (blk_cell hcell.out 0)
        have hc4 := (blk_cell hcell.out 3)
        simp only [List.getElem?_toArray, List.getElem?_cons_zero, List.getElem?_cons_succ] at hc0 hc4
        rw [hc0, hc4] at hS
        replace hS := Aside0.mk hS
        clear hc0 hc4
        go_region_held3 (fun w' => w'.cell? ⟨w.heap.size, 0, none⟩ = some (.int .i64 5) ∧ w'.cell? ⟨w.heap.size, 3, none⟩ = some (.int .i64 g))
          (first
            | exact hS.out _ (below_drew1 (Below.refl _ _))
            | exact hS.out _ (by first | exact hb6.out | exact below_alloc hb6.out _ | exact below_alloc (below_alloc hb6.out _) _)
            | exact hS.out _ (by first | exact hb4.out | exact below_alloc hb4.out _ | exact below_alloc (below_alloc hb4.out _) _)
            | exact hS.out _ (by first | exact hb2.out | exact below_alloc hb2.out _ | exact below_alloc (below_alloc hb2.out _) _)
            | assumption)
          (first
            | (go_at_call 34; with_reducible refine Calls.mono (fin.out w3.heap.size (some ⟨w2.heap.size, 0, none⟩) A2 A3 c2 c3 (w3.alloc _) ?g1 hle2 hc3 ?g2 ?g3 ?g4) ?_; (case g1 => exact blk_new w3 _); (case g2 => exact C_one2 (IntKind.u8.wrap (48 + IntKind.u8.wrap g)) hv.out ((blk_cell (blk_alloc c14.out _) 0).trans rfl)); (case g3 => exact Kd.C_below m4.out (below_alloc (Below.refl _ _) _)); (case g4 => exact Kd.C_below m1.out (below_alloc hb4.out _)); rintro e w5 ⟨v, rfl, hR, hb⟩; have m6 := Aside0.mk (Kd.R_lower (base' := w.heap.size) hR (by simp only [World.size_alloc]; have := hb1.out.size; have := hb4.out.size; omega)); have hb6 := Aside0.mk (below_step (below_alloc hb4.out _) hb); clear hR hb)
            | (go_at_call 34; with_reducible refine Calls.mono (fin.out (w3.heap.size + 1) (some ⟨w3.heap.size, 0, none⟩) A2 A3 c2 c3 ((w3.alloc _).alloc _) ?g1 hle2 hc3 ?g2 ?g3 ?g4) ?_; (case g1 => exact blk_new2 w3 _ _); (case g2 => exact C_one2 (IntKind.u8.wrap (48 + IntKind.u8.wrap g)) hv.out ((blk_cell (blk_alloc (blk_new w3 _) _) 0).trans rfl)); (case g3 => exact Kd.C_below m4.out (below_alloc (below_alloc (Below.refl _ _) _) _)); (case g4 => exact Kd.C_below m1.out (below_alloc (below_alloc hb4.out _) _)); rintro e w5 ⟨v, rfl, hR, hb⟩; have m6 := Aside0.mk (Kd.R_lower (base' := w.heap.size) hR (by simp only [World.size_alloc]; have := hb1.out.size; have := hb4.out.size; omega)); have hb6 := Aside0.mk (below_step (below_alloc (below_alloc hb4.out _) _) hb); clear hR hb)
            | (go_at_call 36; with_reducible refine Calls.mono (der_length.calls 64 _ l (w2.alloc _) hl.out) ?_; rintro e w3 ⟨v, rfl, hR, hb⟩; obtain ⟨A2, c2, rfl, hle2, hC2⟩ := R_part hR; have hb4 := Aside0.mk (below_step (below_alloc hb2.out _) hb); have m4 := Aside0.mk hC2; have c14 := Aside0.mk (blk_below (blk_new w2 _) hb); clear hR hb hC2)
            | (go_at_call 36; with_reducible refine Calls.mono (der_length.calls 64 _ l w2 hl.out) ?_; rintro e w3 ⟨v, rfl, hR, hb⟩; obtain ⟨A2, c2, rfl, hle2, hC2⟩ := R_part hR; have hb4 := Aside0.mk (below_step hb2.out hb); have m4 := Aside0.mk hC2; clear hR hb hC2)
            | (go_at_call 35; refine (idents_calls _).mono ?_; rintro e w2 ⟨rfl, hb⟩; have hb2 := Aside0.mk (below_step (below_drew1 (Below.refl _ _)) hb); clear hb))
        all_goals (
          go_wp2
          go_ret
          exact ⟨_, rfl, m6.out, below_step hb1.out hb6.out⟩)
      · have hix := ix_6
        have hv : IntKind.u8.wrap (160 + IntKind.u8.wrap g) = (160 + g % 256) % 256 := by rw [IntKind.wrap_u8, IntKind.wrap_u8]
        replace hv := Aside0.mk hv
        simp only [identL_6] at fin ⊢
        replace fin := Aside0.mk fin
        go_enter Try.func25, Try.ntmps25
        go_wp2_with (go_at_call 33; refine (IH2.out _ (Kd.C_below hk.out (below_alloc (Below.refl _ _) _)) hc).mono ?_; rintro e w1 ⟨⟨A3, c3, rfl, hc3, hC3⟩, hb⟩; have hb1 := Aside0.mk (below_step (below_alloc (Below.refl _ _) _) hb); have m1 := Aside0.mk hC3; have hcell := Aside0.mk (blk_below (blk_new w _) hb); clear hC3 hb)
        have hS : ∀ W, Below w1.heap.size w1 W → W.cell? ⟨w.heap.size, 0, none⟩ = w1.cell? ⟨w.heap.size, 0, none⟩ ∧ W.cell? ⟨w.heap.size, 3, none⟩ = w1.cell? ⟨w.heap.size, 3, none⟩ := fun W hW => ⟨hW.cell (blk_lt hcell.out), hW.cell (blk_lt hcell.out)⟩
        have hc0 := (blk_cell hcell.out 0)
        have hc4 := (blk_cell hcell.out 3)
        simp only [List.getElem?_toArray, List.getElem?_cons_zero, List.getElem?_cons_succ] at hc0 hc4
        rw [hc0, hc4] at hS
        replace hS := Aside0.mk hS
        clear hc0 hc4
        go_region_held3 (fun w' => w'.cell? ⟨w.heap.size, 0, none⟩ = some (.int .i64 6) ∧ w'.cell? ⟨w.heap.size, 3, none⟩ = some (.int .i64 g))
          (first
            | exact hS.out _ (below_drew1 (Below.refl _ _))
            | exact hS.out _ (by first | exact hb6.out | exact below_alloc hb6.out _ | exact below_alloc (below_alloc hb6.out _) _)
            | exact hS.out _ (by first | exact hb4.out | exact below_alloc hb4.out _ | exact below_alloc (below_alloc hb4.out _) _)
            | exact hS.out _ (by first | exact hb2.out | exact below_alloc hb2.out _ | exact below_alloc (below_alloc hb2.out _) _)
            | assumption)
          (first
            | (go_at_call 34; with_reducible refine Calls.mono (fin.out w3.heap.size (some ⟨w2.heap.size, 0, none⟩) A2 A3 c2 c3 (w3.alloc _) ?g1 hle2 hc3 ?g2 ?g3 ?g4) ?_; (case g1 => exact blk_new w3 _); (case g2 => exact C_one2 (IntKind.u8.wrap (160 + IntKind.u8.wrap g)) hv.out ((blk_cell (blk_alloc c14.out _) 0).trans rfl)); (case g3 => exact Kd.C_below m4.out (below_alloc (Below.refl _ _) _)); (case g4 => exact Kd.C_below m1.out (below_alloc hb4.out _)); rintro e w5 ⟨v, rfl, hR, hb⟩; have m6 := Aside0.mk (Kd.R_lower (base' := w.heap.size) hR (by simp only [World.size_alloc]; have := hb1.out.size; have := hb4.out.size; omega)); have hb6 := Aside0.mk (below_step (below_alloc hb4.out _) hb); clear hR hb)
            | (go_at_call 34; with_reducible refine Calls.mono (fin.out (w3.heap.size + 1) (some ⟨w3.heap.size, 0, none⟩) A2 A3 c2 c3 ((w3.alloc _).alloc _) ?g1 hle2 hc3 ?g2 ?g3 ?g4) ?_; (case g1 => exact blk_new2 w3 _ _); (case g2 => exact C_one2 (IntKind.u8.wrap (160 + IntKind.u8.wrap g)) hv.out ((blk_cell (blk_alloc (blk_new w3 _) _) 0).trans rfl)); (case g3 => exact Kd.C_below m4.out (below_alloc (below_alloc (Below.refl _ _) _) _)); (case g4 => exact Kd.C_below m1.out (below_alloc (below_alloc hb4.out _) _)); rintro e w5 ⟨v, rfl, hR, hb⟩; have m6 := Aside0.mk (Kd.R_lower (base' := w.heap.size) hR (by simp only [World.size_alloc]; have := hb1.out.size; have := hb4.out.size; omega)); have hb6 := Aside0.mk (below_step (below_alloc (below_alloc hb4.out _) _) hb); clear hR hb)
            | (go_at_call 36; with_reducible refine Calls.mono (der_length.calls 64 _ l (w2.alloc _) hl.out) ?_; rintro e w3 ⟨v, rfl, hR, hb⟩; obtain ⟨A2, c2, rfl, hle2, hC2⟩ := R_part hR; have hb4 := Aside0.mk (below_step (below_alloc hb2.out _) hb); have m4 := Aside0.mk hC2; have c14 := Aside0.mk (blk_below (blk_new w2 _) hb); clear hR hb hC2)
            | (go_at_call 36; with_reducible refine Calls.mono (der_length.calls 64 _ l w2 hl.out) ?_; rintro e w3 ⟨v, rfl, hR, hb⟩; obtain ⟨A2, c2, rfl, hle2, hC2⟩ := R_part hR; have hb4 := Aside0.mk (below_step hb2.out hb); have m4 := Aside0.mk hC2; clear hR hb hC2)
            | (go_at_call 35; refine (idents_calls _).mono ?_; rintro e w2 ⟨rfl, hb⟩; have hb2 := Aside0.mk (below_step (below_drew1 (Below.refl _ _)) hb); clear hb))
        all_goals (
          go_wp2
          go_ret
          exact ⟨_, rfl, m6.out, below_step hb1.out hb6.out⟩)
    · rw [if_neg hl2] at hr
      exact absurd hr (by simp)
  · rw [if_neg hg] at hr
    exact absurd hr (by simp)
mutual
theorem wr_calls : ∀ t : S24, PWr t
  | ⟨k, n, s, g, ts⟩ => written_of k n s g ts (content_of k n s g ts (all_wr ts))
theorem all_wr : ∀ (ts : List S24), ∀ t ∈ ts, PWr t
  | [], t, h => absurd h (by simp)
  | t' :: r, t, h => by
    rcases List.mem_cons.1 h with h1 | h1
    · rw [h1]; exact wr_calls t'
    · exact all_wr r t h1
end
end Go.Proofs.Ytpphoifjhhidfaa.Der
