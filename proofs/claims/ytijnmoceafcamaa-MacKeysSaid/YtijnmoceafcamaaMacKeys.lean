/- MacKeys: for any key, number of noughts, long key and message the law returns true and changes nothing that was there. Condition: none but that the rows lie in memory. -/
import Derived.Test.YtijnmoceafcamaaMacZero
namespace Go.Proofs.Ytijnmoceafcamaa.Sha
set_option linter.unusedVariables false
set_option linter.unusedSimpArgs false
open Go.RowKit
open Go.Proofs.YtijnmoceafcamaaW.PrintWords Go.Proofs.YtijnmoceafcamaaW.PrintMore
attribute [local go_sem] max2_int min2_int max_two min_two
attribute [local go_sem] run_eql_digest run_neq_digest
attribute [-go_sem] run_eql_struct run_neq_struct
set_option maxHeartbeats 2000000 in
set_option maxRecDepth 100000 in
theorem macKeys_calls (A0 : Option Addr) (c0 : Nat) (l0 : List Int) (a1 : Int) (A2 : Option Addr) (c2 : Nat) (l2 : List Int) (A3 : Option Addr) (c3 : Nat) (l3 : List Int) (w : World)
    (hr0 : ReadsB w A0 l0) (hc0 : l0.length ≤ c0) (hb0 : ∀ x ∈ l0, 0 ≤ x ∧ x ≤ 255) (w1 : (Lit.int .i64 a1).wf = true) (hr2 : ReadsB w A2 l2) (hc2 : l2.length ≤ c2) (hb2 : ∀ x ∈ l2, 0 ≤ x ∧ x ≤ 255) (hr3 : ReadsB w A3 l3) (hc3 : l3.length ≤ c3) (hb3 : ∀ x ∈ l3, 0 ≤ x ∧ x ≤ 255) :
    Calls Try.prog 9 #[.slice A0 l0.length c0, .int .i64 a1, .slice A2 l2.length c2, .slice A3 l3.length c3] w fun e w' => e = .returned (.bool true) ∧ Below w.heap.size w w' := by
  clear w1
  obtain ⟨n0, p0, hm0, hn0, hk0, hnc0, hnl0, hpe0, hp0, hpb0⟩ := cutB 64 (by decide) hr0 hc0 hb0
  obtain ⟨n2, p2, hm2, hn2, hk2, hnc2, hnl2, hpe2, hp2, hpb2⟩ := cutB 300 (by decide) hr2 hc2 hb2
  obtain ⟨n3, p3, hm3, hn3, hk3, hnc3, hnl3, hpe3, hp3, hpb3⟩ := cutB 500 (by decide) hr3 hc3 hb3
  replace hp0 := Aside0.mk hp0
  replace hpb0 := Aside0.mk hpb0
  replace hn0 := Aside0.mk hn0
  replace hp2 := Aside0.mk hp2
  replace hpb2 := Aside0.mk hpb2
  replace hn2 := Aside0.mk hn2
  replace hp3 := Aside0.mk hp3
  replace hpb3 := Aside0.mk hpb3
  replace hn3 := Aside0.mk hn3
  clear hr0 hb0 hpe0 hr2 hb2 hpe2 hr3 hb3 hpe3
  replace hk0 : (n0 : Int) ≤ 64 := by omega
  replace hk2 : (n2 : Int) ≤ 300 := by omega
  replace hk3 : (n3 : Int) ≤ 500 := by omega
  obtain ⟨q, hq, hq0, hq1⟩ : ∃ q : Int, Int.tmod (Go.bits .and .i64 a1 63) (65 - (n0 : Int)) = q ∧ 0 ≤ q ∧ q ≤ 65 - (n0 : Int) - 1 := and_low_mod a1 63 (65 - (n0 : Int)) (by decide) (by omega)
  obtain ⟨z, rfl⟩ := Int.eq_ofNat_of_zero_le hq0
  have hz0 : (65 - (n0 : Int) == 0) = false := by rw [beq_eq_false_iff_ne]; omega
  go_enter Try.func9, Try.ntmps9
  go_wp2_with (first
    | (refine own_zeros h2.out 0 rfl rfl _ _ rfl rfl z rfl rfl (by have := hn0.out; rw [List.nil_append]; omega) ?_; intro Ay cy Ny wy gly hNy hcy hy0; have h3 : Aside0 (Owns w wy [rowR (.slice Ay Ny cy) (p0 ++ List.replicate z 0) gly]) := Aside0.mk hy0; replace hNy : Aside0 ((p0 ++ List.replicate z 0).length = Ny) := Aside0.mk hNy; clear hy0)
    | (refine own_append he.out 0 rfl rfl _ _ rfl rfl rfl rfl p0 hn0.out (hp0.out.below he.out.below) (by simp; omega) ?_; intro Ax cx Nx wx glx hNx hcx hx0; have hNe : Nx = n0 := (by have := hNx; have := hn0.out; rw [List.nil_append] at *; omega); subst hNe; have h2 := Aside0.mk hx0; replace hNx := Aside0.mk hNx; clear hx0)
    | (go_at_call 29; refine (macShown_calls w).mono ?_; rintro e w1 ⟨rfl, h10⟩; have h1 := Aside0.mk ((Owns.start w).stay (Keeps.of_below h10 _)); have he := Aside0.mk ((Owns.start w).stay (Keeps.of_below h10 _)).empty; clear h10))
  refine wp_region_noPanic ?_
  refine wp_region_held_drew (S := fun w' => Owns w w' [rowR (.slice Ay Ny cy) (p0 ++ List.replicate z 0) gly]) (by kernel_rfl) h3.out.drew (fun hHeld => ?_)
  refine wpAnyH_take (i := 1) (oi := ⟨some 37, _, _, _, _, _⟩) (v := ?_) rfl (by kernel_rfl) (by kernel_rfl) (by kernel_rfl) (fun _ _ _ h => h) (Or.inl ⟨by rfl, ?_⟩) (by assumption) ?_
  rotate_left
  · (intro w hSw; (try dsimp only at hSw); go_simp); (try with_reducible rfl)
  try simp only [Act.put, List.setIfInBounds_toArray, List.set_cons_zero, List.set_cons_succ]
  refine wpAnyH_take (i := 2) (oi := ⟨some 38, _, _, _, _, _⟩) (v := ?_) rfl (by kernel_rfl) (by kernel_rfl) (by kernel_rfl) (fun _ _ _ h => h) (Or.inl ⟨by rfl, ?_⟩) (by assumption) ?_
  rotate_left
  · (intro w hSw; (try dsimp only at hSw); go_simp); (try with_reducible rfl)
  try simp only [Act.put, List.setIfInBounds_toArray, List.set_cons_zero, List.set_cons_succ]
  refine wpAnyH_take (i := 3) (oi := ⟨some 39, _, _, _, _, _⟩) (v := ?_) rfl (by kernel_rfl) (by kernel_rfl) (by kernel_rfl) (fun _ _ _ h => h) (Or.inl ⟨by rfl, ?_⟩) (by assumption) ?_
  rotate_left
  · (intro w hSw; (try dsimp only at hSw); go_simp); (try with_reducible rfl)
  try simp only [Act.put, List.setIfInBounds_toArray, List.set_cons_zero, List.set_cons_succ]
  refine wpAnyH_take (i := 4) (oi := ⟨some 40, _, _, _, _, _⟩) (v := ?_) rfl (by kernel_rfl) (by kernel_rfl) (by kernel_rfl) (fun _ _ _ h => h) (Or.inl ⟨by rfl, ?_⟩) (by assumption) ?_
  rotate_left
  · (intro w hSw; (try dsimp only at hSw); go_simp); (try with_reducible rfl)
  try simp only [Act.put, List.setIfInBounds_toArray, List.set_cons_zero, List.set_cons_succ]
  refine wpAnyH_take (i := 5) (oi := ⟨some 41, _, _, _, _, _⟩) (v := ?_) rfl (by kernel_rfl) (by kernel_rfl) (by kernel_rfl) (fun _ _ _ h => h) (Or.inl ⟨by rfl, ?_⟩) (by assumption) ?_
  rotate_left
  · (intro w hSw; (try dsimp only at hSw); go_simp); (try with_reducible rfl)
  try simp only [Act.put, List.setIfInBounds_toArray, List.set_cons_zero, List.set_cons_succ]
  refine wpAnyH_ready (rs := [0]) (by kernel_rfl) (by simp) ?_
  refine AllReadyH.cons (o := ⟨some 36, _, _, _, _, _⟩) rfl (fun K hK => ?_) AllReadyH.nil
  refine own_make_step hHeld rfl _ _ rfl 65 rfl rfl rfl (by decide) ?_
  intro g wg hg
  refine hK.out _ _ (Owns.drop hg) (fun hHeld2 => ?_)
  clear hK K hHeld hHeld2
  try simp only [Act.put, List.setIfInBounds_toArray, List.set_cons_zero, List.set_cons_succ]
  refine wpAnyH_ready (rs := [6]) (by kernel_rfl) (by simp) ?_
  refine AllReadyH.cons (o := ⟨some 42, _, _, _, _, _⟩) rfl (fun K hK => ?_) AllReadyH.nil
  refine own_append_step hg 1 rfl rfl _ _ rfl rfl rfl rfl p2 hn2.out (hp2.out.below hg.below) (by rw [List.length_replicate]; omega) ?_
  intro Am cm Nm wm glm hNm hcm hm
  refine hK.out _ _ (Owns.drop (rs := [_]) hm) (fun hHeld => ?_)
  clear hK K
  have h4 : Aside0 (Owns w wm [rowR (.slice Ay Ny cy) (p0 ++ List.replicate z 0) gly, rowR (.slice Am Nm cm) (List.replicate 65 0 ++ p2) glm]) := Aside0.mk hm
  replace hNm : Aside0 ((List.replicate 65 0 ++ p2).length = Nm) := Aside0.mk hNm
  try simp only [Act.put, List.setIfInBounds_toArray, List.set_cons_zero, List.set_cons_succ]
  refine wpAnyH_take (i := 7) (oi := ⟨some 12, _, _, _, _, _⟩) (v := ?_) rfl (by kernel_rfl) (by kernel_rfl) (by kernel_rfl) (fun _ _ _ h => h) (Or.inl ⟨by rfl, ?_⟩) (by assumption) ?_
  rotate_left
  · (intro w hSw; (try dsimp only at hSw); go_simp); (try with_reducible rfl)
  try simp only [Act.put, List.setIfInBounds_toArray, List.set_cons_zero, List.set_cons_succ]
  refine wpAnyH_done (by kernel_rfl) ?_ _
  refine NoPanic.normal ?_
  clear hHeld hm hg
  have hMb : Aside0 (∀ x ∈ List.replicate 65 (0 : Int) ++ p2, 0 ≤ x ∧ x ≤ 255) := Aside0.mk (byte2 (fun x hx => by have := List.eq_of_mem_replicate hx; omega) hpb2.out)
  have hMl : Aside0 (64 < (List.replicate 65 (0 : Int) ++ p2).length ∧ (List.replicate 65 (0 : Int) ++ p2).length ≤ 400) := Aside0.mk (by rw [List.length_append, List.length_replicate]; have := hn2.out; omega)
  go_wp2_with (first
    | (refine store24 h6.out 2 rfl rfl _ _ rfl _ rfl rfl (by simp) (digest_len _) ?_; intro x7 h; have h7 : Aside0 (Owns w x7 [rowR (.slice Ay Ny cy) (p0 ++ List.replicate z 0) gly, rowR (.slice Am Nm cm) (List.replicate 65 0 ++ p2) glm, boxR S (digest (List.replicate 65 0 ++ p2))]) := Aside0.mk h; clear h)
    | (refine alloc24 h5.out rfl rfl ?_; intro S x6 h; have h6 := Aside0.mk h; clear h)
    | (go_at_call 21; refine (own_sumrow h4.out 1 rfl hNm.out hMb.out (by have := hNm.out; have := hMl.out; omega)).mono ?_; rintro e x5 ⟨rfl, h⟩; have h5 := Aside0.mk h; clear h))
  have hZ1 : Aside0 (macP (p0 ++ List.replicate z 0) p3 = macP p0 p3) := Aside0.mk (macP_eq p3 (pad64_zeros p0 z (by have := hn0.out; omega)))
  have hZ2 : Aside0 (macP (digest (List.replicate 65 (0 : Int) ++ p2)) p3 = macP (List.replicate 65 (0 : Int) ++ p2) p3) := Aside0.mk (macP_eq p3 (key64_long hMl.out.1))
  have hPb : Aside0 (∀ x ∈ p0 ++ List.replicate z 0, 0 ≤ x ∧ x ≤ 255) := Aside0.mk (byte2 hpb0.out (fun x hx => by have := List.eq_of_mem_replicate hx; omega))
  have hPl : Aside0 (Ny ≤ 1000) := Aside0.mk (by have := hNy.out; have := hn0.out; rw [List.length_append, List.length_replicate] at *; omega)
  have hMn : Aside0 (Nm ≤ 1000) := Aside0.mk (by have := hNm.out; have := hMl.out; omega)
  obtain ⟨Z1, hZ1e⟩ : ∃ Z1, macP p0 p3 = Z1 := ⟨_, rfl⟩
  obtain ⟨Z2, hZ2e⟩ : ∃ Z2, macP (List.replicate 65 (0 : Int) ++ p2) p3 = Z2 := ⟨_, rfl⟩
  rw [hZ1e] at hZ1
  rw [hZ2e] at hZ2
  replace hZ1e := Aside0.mk hZ1e
  replace hZ2e := Aside0.mk hZ2e
  go_region_held3 (fun w' => Owns w w' [rowR (.slice Ay Ny cy) (p0 ++ List.replicate z 0) gly, rowR (.slice Am Nm cm) (List.replicate 65 0 ++ p2) glm, boxR S (digest (List.replicate 65 0 ++ p2))])
    (first
      | exact h7.out.drew
      | exact m4.out
      | exact m3.out
      | exact m2.out
      | exact m1.out
      | assumption)
    (first
      | (go_at_call 30; have hq := m3.out; refine (own_mac hq (digest (List.replicate 65 (0 : Int) ++ p2)) p3 (digest_len _) (box_reads hq 2 rfl) (digest_byte _) hn3.out (hp3.out.below hq.below) hpb3.out (by decide) (by omega) Z2 hZ2.out).mono ?_; clear hq; rintro e x4 ⟨rfl, k4⟩; have m4 := Aside0.mk k4; clear k4)
      | (go_at_call 30; have hq := m2.out; refine (own_mac hq (List.replicate 65 (0 : Int) ++ p2) p3 hNm.out (own_reads hq 1 rfl) hMb.out hn3.out (hp3.out.below hq.below) hpb3.out (by have := hMn.out; omega) (by omega) Z2 hZ2e.out).mono ?_; clear hq; rintro e x3 ⟨rfl, k3⟩; have m3 := Aside0.mk k3; clear k3)
      | (go_at_call 30; have hq := m1.out; refine (own_mac hq p0 p3 hn0.out (hp0.out.below hq.below) hpb0.out hn3.out (hp3.out.below hq.below) hpb3.out (by omega) (by omega) Z1 hZ1e.out).mono ?_; clear hq; rintro e x2 ⟨rfl, k2⟩; have m2 := Aside0.mk k2; clear k2)
      | (go_at_call 30; have hq := h7.out.drew; refine (own_mac hq (p0 ++ List.replicate z 0) p3 hNy.out (own_reads hq 0 rfl) hPb.out hn3.out (hp3.out.below hq.below) hpb3.out (by have := hPl.out; omega) (by omega) Z1 hZ1.out).mono ?_; clear hq; rintro e x1 ⟨rfl, k1⟩; have m1 := Aside0.mk k1; clear k1))
  go_wp2
  go_ret
  exact ⟨rfl, m4.out.below⟩
end Go.Proofs.Ytijnmoceafcamaa.Sha
