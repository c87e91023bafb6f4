/- MacAgain: for any two keys and messages the law returns true and changes nothing that was there. Condition: none but that the rows lie in memory. -/
import Derived.Test.YtijnmoceafcamaaMacStep
namespace Go.Proofs.Ytijnmoceafcamaa.Sha
set_option linter.unusedVariables false
set_option linter.unusedSimpArgs false
open Go.RowKit
open Go.Proofs.YtijnmoceafcamaaW.PrintWords Go.Proofs.YtijnmoceafcamaaW.PrintMore
attribute [local go_sem] max2_int min2_int max_two min_two
attribute [local go_sem] run_eql_digest run_neq_digest
attribute [-go_sem] run_eql_struct run_neq_struct
def RelAg (w : World) (rs : List Res) (N : Nat) (A : Option Addr) (c : Nat) (gl : Option Nat) (S1 S2 S3 : Res) (v : Value) (W : World) : Prop := ∃ (k : Nat) (l : List Int), k ≤ N ∧ v = .int .i64 k ∧ l.length = N ∧ Owns w W (rs ++ [rowR (.slice A N c) l gl, S1, S2, S3])
set_option maxHeartbeats 2000000 in
set_option maxRecDepth 100000 in
theorem macAgain_calls (A0 : Option Addr) (c0 : Nat) (l0 : List Int) (A1 : Option Addr) (c1 : Nat) (l1 : List Int) (A2 : Option Addr) (c2 : Nat) (l2 : List Int) (A3 : Option Addr) (c3 : Nat) (l3 : List Int) (w : World)
    (hr0 : ReadsB w A0 l0) (hc0 : l0.length ≤ c0) (hb0 : ∀ x ∈ l0, 0 ≤ x ∧ x ≤ 255) (hr1 : ReadsB w A1 l1) (hc1 : l1.length ≤ c1) (hb1 : ∀ x ∈ l1, 0 ≤ x ∧ x ≤ 255) (hr2 : ReadsB w A2 l2) (hc2 : l2.length ≤ c2) (hb2 : ∀ x ∈ l2, 0 ≤ x ∧ x ≤ 255) (hr3 : ReadsB w A3 l3) (hc3 : l3.length ≤ c3) (hb3 : ∀ x ∈ l3, 0 ≤ x ∧ x ≤ 255) :
    Calls Try.prog 14 #[.slice A0 l0.length c0, .slice A1 l1.length c1, .slice A2 l2.length c2, .slice A3 l3.length c3] w fun e w' => e = .returned (.bool true) ∧ Below w.heap.size w w' := by
  obtain ⟨n0, p0, hm0, hn0, hk0, hnc0, hnl0, hpe0, hp0, hpb0⟩ := cutB 300 (by decide) hr0 hc0 hb0
  replace hp0 := Aside0.mk hp0
  replace hpb0 := Aside0.mk hpb0
  replace hn0 := Aside0.mk hn0
  clear hr0 hb0 hpe0
  replace hk0 : (n0 : Int) ≤ 300 := by omega
  obtain ⟨n1, p1, hm1, hn1, hk1, hnc1, hnl1, hpe1, hp1, hpb1⟩ := cutB 300 (by decide) hr1 hc1 hb1
  replace hp1 := Aside0.mk hp1
  replace hpb1 := Aside0.mk hpb1
  replace hn1 := Aside0.mk hn1
  clear hr1 hb1 hpe1
  replace hk1 : (n1 : Int) ≤ 300 := by omega
  obtain ⟨n2, p2, hm2, hn2, hk2, hnc2, hnl2, hpe2, hp2, hpb2⟩ := cutB 300 (by decide) hr2 hc2 hb2
  replace hp2 := Aside0.mk hp2
  replace hpb2 := Aside0.mk hpb2
  replace hn2 := Aside0.mk hn2
  clear hr2 hb2 hpe2
  replace hk2 : (n2 : Int) ≤ 300 := by omega
  obtain ⟨n3, p3, hm3, hn3, hk3, hnc3, hnl3, hpe3, hp3, hpb3⟩ := cutB 300 (by decide) hr3 hc3 hb3
  replace hp3 := Aside0.mk hp3
  replace hpb3 := Aside0.mk hpb3
  replace hn3 := Aside0.mk hn3
  clear hr3 hb3 hpe3
  replace hk3 : (n3 : Int) ≤ 300 := by omega
  obtain ⟨Za, hZa⟩ : ∃ Za, macP p0 p1 = Za := ⟨_, rfl⟩
  obtain ⟨Zb, hZb⟩ : ∃ Zb, macP p2 p3 = Zb := ⟨_, rfl⟩
  replace hZa := Aside0.mk hZa
  replace hZb := Aside0.mk hZb
  go_enter Try.func14, Try.ntmps14
  go_wp2_with (first
    | (refine store24 h5.out 2 rfl rfl _ _ rfl _ rfl rfl (by simp) (digest_len _) ?_; intro x6 h; have h6 : Aside0 (Owns w x6 [rowR (.slice Ak Nk ck) p0 gk, rowR (.slice Am Nm cm) p1 gm, boxR S1 (digest Za)]) := Aside0.mk h; clear h)
    | (refine alloc24 h4.out rfl rfl ?_; intro S1 x5 h; have h5 := Aside0.mk h; clear h)
    | (go_at_call 30; refine (own_mac h3.out p0 p1 hNk.out (own_reads h3.out 0 rfl) hpb0.out hNm.out (own_reads h3.out 1 rfl) hpb1.out (by have := hNk.out; have := hn0.out; omega) (by have := hNm.out; have := hn1.out; omega) Za hZa.out).mono ?_; rintro e x4 ⟨rfl, h⟩; have h4 := Aside0.mk h; clear h)
    | (refine own_append he2.out 1 rfl rfl _ _ rfl rfl rfl rfl p1 hn1.out (hp1.out.below he2.out.below) (by simp; omega) ?_; intro Am cm Nm x3 gm hNm hcm h; have h3 : Aside0 (Owns w x3 [rowR (.slice Ak Nk ck) p0 gk, rowR (.slice Am Nm cm) p1 gm]) := Aside0.mk h; replace hNm : Aside0 (p1.length = Nm) := Aside0.mk hNm; clear h)
    | (refine own_append he.out 0 rfl rfl _ _ rfl rfl rfl rfl p0 hn0.out (hp0.out.below he.out.below) (by simp; omega) ?_; intro Ak ck Nk x2 gk hNk hck h; have h2 := Aside0.mk h; have he2 := Aside0.mk h.empty; replace hNk : Aside0 (p0.length = Nk) := Aside0.mk hNk; clear h)
    | (go_at_call 29; refine (macShown_calls w).mono ?_; rintro e w1 ⟨rfl, h10⟩; have h1 := Aside0.mk ((Owns.start w).stay (Keeps.of_below h10 _)); have he := Aside0.mk ((Owns.start w).stay (Keeps.of_below h10 _)).empty; clear h10))
  clear h1 he h2 he2 h3 h4 h5
  refine wp_region_noPanic ?_
  refine wp_region_held_drew (S := fun w' => Owns w w' [rowR (.slice Ak Nk ck) p0 gk, rowR (.slice Am Nm cm) p1 gm, boxR S1 (digest Za)]) (by kernel_rfl) h6.out.drew (fun hHeld => ?_)
  refine wpAnyH_take (i := 0) (oi := ⟨some 32, _, _, _, _, _⟩) (v := ?_) rfl (by kernel_rfl) (by kernel_rfl) (by kernel_rfl) (fun _ _ _ h => h) (Or.inl ⟨by rfl, ?_⟩) (by assumption) ?_
  rotate_left
  · (intro w hSw; (try dsimp only at hSw); go_simp); (try with_reducible rfl)
  try simp only [Act.put, List.setIfInBounds_toArray, List.set_cons_zero, List.set_cons_succ]
  refine wpAnyH_take (i := 1) (oi := ⟨some 33, _, _, _, _, _⟩) (v := ?_) rfl (by kernel_rfl) (by kernel_rfl) (by kernel_rfl) (fun _ _ _ h => h) (Or.inl ⟨by rfl, ?_⟩) (by assumption) ?_
  rotate_left
  · (intro w hSw; (try dsimp only at hSw); go_simp); (try with_reducible rfl)
  try simp only [Act.put, List.setIfInBounds_toArray, List.set_cons_zero, List.set_cons_succ]
  refine wpAnyH_take (i := 2) (oi := ⟨some 34, _, _, _, _, _⟩) (v := ?_) rfl (by kernel_rfl) (by kernel_rfl) (by kernel_rfl) (fun _ _ _ h => h) (Or.inl ⟨by rfl, ?_⟩) (by assumption) ?_
  rotate_left
  · (intro w hSw; (try dsimp only at hSw); go_simp); (try with_reducible rfl)
  try simp only [Act.put, List.setIfInBounds_toArray, List.set_cons_zero, List.set_cons_succ]
  refine wpAnyH_take (i := 3) (oi := ⟨some 35, _, _, _, _, _⟩) (v := ?_) rfl (by kernel_rfl) (by kernel_rfl) (by kernel_rfl) (fun _ _ _ h => h) (Or.inl ⟨by rfl, ?_⟩) (by assumption) ?_
  rotate_left
  · (intro w hSw; (try dsimp only at hSw); go_simp); (try with_reducible rfl)
  try simp only [Act.put, List.setIfInBounds_toArray, List.set_cons_zero, List.set_cons_succ]
  refine wpAnyH_take (i := 4) (oi := ⟨some 36, _, _, _, _, _⟩) (v := ?_) rfl (by kernel_rfl) (by kernel_rfl) (by kernel_rfl) (fun _ _ _ h => h) (Or.inl ⟨by rfl, ?_⟩) (by assumption) ?_
  rotate_left
  · (intro w hSw; (try dsimp only at hSw); go_simp); (try with_reducible rfl)
  try simp only [Act.put, List.setIfInBounds_toArray, List.set_cons_zero, List.set_cons_succ]
  refine wpAnyH_take (i := 5) (oi := ⟨some 37, _, _, _, _, _⟩) (v := ?_) rfl (by kernel_rfl) (by kernel_rfl) (by kernel_rfl) (fun _ _ _ h => h) (Or.inl ⟨by rfl, ?_⟩) (by assumption) ?_
  rotate_left
  · (intro w hSw; (try dsimp only at hSw); go_simp); (try with_reducible rfl)
  try simp only [Act.put, List.setIfInBounds_toArray, List.set_cons_zero, List.set_cons_succ]
  refine wpAnyH_take (i := 6) (oi := ⟨some 38, _, _, _, _, _⟩) (v := ?_) rfl (by kernel_rfl) (by kernel_rfl) (by kernel_rfl) (fun _ _ _ h => h) (Or.inl ⟨by rfl, ?_⟩) (by assumption) ?_
  rotate_left
  · (intro w hSw; (try dsimp only at hSw); go_simp); (try with_reducible rfl)
  try simp only [Act.put, List.setIfInBounds_toArray, List.set_cons_zero, List.set_cons_succ]
  refine wpAnyH_take (i := 7) (oi := ⟨some 39, _, _, _, _, _⟩) (v := ?_) rfl (by kernel_rfl) (by kernel_rfl) (by kernel_rfl) (fun _ _ _ h => h) (Or.inl ⟨by rfl, ?_⟩) (by assumption) ?_
  rotate_left
  · (intro w hSw; (try dsimp only at hSw); go_simp); (try with_reducible rfl)
  try simp only [Act.put, List.setIfInBounds_toArray, List.set_cons_zero, List.set_cons_succ]
  refine wpAnyH_take (i := 8) (oi := ⟨some 40, _, _, _, _, _⟩) (v := ?_) rfl (by kernel_rfl) (by kernel_rfl) (by kernel_rfl) (fun _ _ _ h => h) (Or.inl ⟨by rfl, ?_⟩) (by assumption) ?_
  rotate_left
  · (intro w hSw; (try dsimp only at hSw); go_simp); (try with_reducible rfl)
  try simp only [Act.put, List.setIfInBounds_toArray, List.set_cons_zero, List.set_cons_succ]
  refine wpAnyH_take (i := 9) (oi := ⟨some 41, _, _, _, _, _⟩) (v := ?_) rfl (by kernel_rfl) (by kernel_rfl) (by kernel_rfl) (fun _ _ _ h => h) (Or.inl ⟨by rfl, ?_⟩) (by assumption) ?_
  rotate_left
  · (intro w hSw; (try dsimp only at hSw); go_simp); (try with_reducible rfl)
  try simp only [Act.put, List.setIfInBounds_toArray, List.set_cons_zero, List.set_cons_succ]
  refine wpAnyH_ready (rs := [10, 11]) (by kernel_rfl) (by simp) ?_
  refine AllReadyH.cons (o := ⟨some 42, _, _, _, _, _⟩) rfl (fun K hK => ?_) (AllReadyH.cons (o := ⟨some 11, _, _, _, _, _⟩) rfl (fun K hK => ?_) AllReadyH.nil)
  rotate_left
  refine alloc24_step hHeld rfl rfl ?_
  intro S2 x7 k7
  refine hK.out _ _ (Owns.drop k7) (fun hHeld2 => ?_)
  clear hK K hHeld2
  try simp only [Act.put, List.setIfInBounds_toArray, List.set_cons_zero, List.set_cons_succ]
  refine wpAnyH_ready (rs := [10]) (by kernel_rfl) (by simp) ?_
  refine AllReadyH.cons (o := ⟨some 42, _, _, _, _, _⟩) rfl (fun K hK => ?_) AllReadyH.nil
  go_simp
  go_at_call 30
  refine (own_mac k7 p2 p3 hn2.out (hp2.out.below k7.below) hpb2.out hn3.out (hp3.out.below k7.below) hpb3.out (by omega) (by omega) Zb hZb.out).mono ?_
  rintro e x8 ⟨rfl, k8⟩
  refine hK.out _ _ (Owns.drop k8) (fun hHeld2 => ?_)
  clear hK K hHeld2
  try simp only [Act.put, List.setIfInBounds_toArray, List.set_cons_zero, List.set_cons_succ]
  refine wpAnyH_ready (rs := [12]) (by kernel_rfl) (by simp) ?_
  refine AllReadyH.cons (o := ⟨none, _, _, _, _, _⟩) rfl (fun K hK => ?_) AllReadyH.nil
  refine store24_step (rs := [rowR (.slice Ak Nk ck) p0 gk, rowR (.slice Am Nm cm) p1 gm, boxR S1 (digest Za)] ++ [boxR S2 (List.replicate 20 0)]) k8 3 rfl rfl _ _ rfl _ rfl rfl (by simp) (digest_len _) ?_
  intro x9 h
  have h9 : Aside0 (Owns w x9 [rowR (.slice Ak Nk ck) p0 gk, rowR (.slice Am Nm cm) p1 gm, boxR S1 (digest Za), boxR S2 (digest Zb)]) := Aside0.mk h
  clear h
  refine hK.out _ _ (Owns.drop (rs := [_, _, _]) h9.out) (fun hHeld2 => ?_)
  clear hK K hHeld2
  try simp only [Act.put, List.setIfInBounds_toArray, List.set_cons_zero, List.set_cons_succ]
  clear k7 k8 hHeld
  refine wpAnyH_done (by kernel_rfl) ?_ _
  refine NoPanic.normal ?_
  rotate_left
  go_simp
  go_at_call 30
  refine (own_mac hHeld p2 p3 hn2.out (hp2.out.below hHeld.below) hpb2.out hn3.out (hp3.out.below hHeld.below) hpb3.out (by omega) (by omega) Zb hZb.out).mono ?_
  rintro e x7 ⟨rfl, k7⟩
  refine hK.out _ _ k7 (fun hHeld2 => ?_)
  clear hK K hHeld2
  try simp only [Act.put, List.setIfInBounds_toArray, List.set_cons_zero, List.set_cons_succ]
  refine wpAnyH_ready (rs := [11]) (by kernel_rfl) (by simp) ?_
  refine AllReadyH.cons (o := ⟨some 11, _, _, _, _, _⟩) rfl (fun K hK => ?_) AllReadyH.nil
  refine alloc24_step k7 rfl rfl ?_
  intro S2 x8 k8
  refine hK.out _ _ (Owns.drop k8) (fun hHeld2 => ?_)
  clear hK K hHeld2
  try simp only [Act.put, List.setIfInBounds_toArray, List.set_cons_zero, List.set_cons_succ]
  refine wpAnyH_ready (rs := [12]) (by kernel_rfl) (by simp) ?_
  refine AllReadyH.cons (o := ⟨none, _, _, _, _, _⟩) rfl (fun K hK => ?_) AllReadyH.nil
  refine store24_step (rs := [rowR (.slice Ak Nk ck) p0 gk, rowR (.slice Am Nm cm) p1 gm, boxR S1 (digest Za)] ++ [boxR S2 (List.replicate 20 0)]) k8 3 rfl rfl _ _ rfl _ rfl rfl (by simp) (digest_len _) ?_
  intro x9 h
  have h9 : Aside0 (Owns w x9 [rowR (.slice Ak Nk ck) p0 gk, rowR (.slice Am Nm cm) p1 gm, boxR S1 (digest Za), boxR S2 (digest Zb)]) := Aside0.mk h
  clear h
  refine hK.out _ _ (Owns.drop (rs := [_, _, _]) h9.out) (fun hHeld2 => ?_)
  clear hK K hHeld2
  try simp only [Act.put, List.setIfInBounds_toArray, List.set_cons_zero, List.set_cons_succ]
  clear k7 k8 hHeld
  refine wpAnyH_done (by kernel_rfl) ?_ _
  refine NoPanic.normal ?_
  all_goals (
    clear h6
    go_wp2_with (first
      | (refine store24 j2.out 4 rfl rfl _ _ rfl _ rfl rfl (by simp) (digest_len _) ?_; intro y3 h; have j3 : Aside0 (Owns w y3 [rowR (.slice Ak Nk ck) p0 gk, rowR (.slice Am Nm cm) p1 gm, boxR S1 (digest Za), boxR S2 (digest Zb), boxR S3 (digest Za)]) := Aside0.mk h; clear h)
      | (refine alloc24 j1.out rfl rfl ?_; intro S3 y2 h; have j2 := Aside0.mk h; clear h)
      | (go_at_call 30; refine (own_mac h9.out p0 p1 hNk.out (own_reads h9.out 0 rfl) hpb0.out hNm.out (own_reads h9.out 1 rfl) hpb1.out (by have := hNk.out; have := hn0.out; omega) (by have := hNm.out; have := hn1.out; omega) Za hZa.out).mono ?_; rintro e y1 ⟨rfl, h⟩; have j1 := Aside0.mk h; clear h))
    have hNmk : (Nm : Int) ≤ 300 := by have := hNm.out; have := hn1.out; omega
    go_loopw [13] (RelAg w [rowR (.slice Ak Nk ck) p0 gk] Nm Am cm gm (boxR S1 (digest Za)) (boxR S2 (digest Zb)) (boxR S3 (digest Za))) (fun v _ => (Nm - intOf v).toNat)
    case atStart => exact ⟨0, p1, by omega, rfl, hNm.out, j3.out⟩
    case round =>
      obtain ⟨k, l, hk1, rfl, hl, hK⟩ := hrel
      by_cases hkn : (k : Int) < Nm
      · obtain ⟨g, o, rfl, hc1', hf1, hset⟩ := own_at hK 1 rfl k (by omega) hl
        go_wp2
        exact ⟨⟨k + 1, l.set k 63, by omega, by rfl, by simpa using hl, hset 63⟩, by simp only [intOf]; omega⟩
      · replace hK := Aside0.mk hK
        clear h9 j1 j2 j3
        go_wp2
        refine wp_region_still_lit (by kernel_rfl) (by kernel_rfl) ?_
        generalize hw6 : ({ wr with drawn := wr.drawn + 1 } : World) = w6
        have hL : Aside0 (Owns w w6 [rowR (.slice Ak Nk ck) p0 gk, rowR (.slice Am Nm cm) l gm, boxR S1 (digest Za), boxR S2 (digest Zb), boxR S3 (digest Za)]) := Aside0.mk (by rw [← hw6]; exact hK.out.alter _)
        have hne : Aside0 (decide (digest Za = (digest Zb).take 19) = false) := Aside0.mk (by
          apply decide_eq_false
          intro h
          have h2 := congrArg List.length h
          rw [digest_len, List.length_take, digest_len] at h2
          exact absurd h2 (by decide))
        clear hw6
        still_step
        still_step
        refine wpStill_step (fun K hK => ?_)
        refine still_load24 hL.out 2 rfl (digest_len _) (by rfl) _ rfl rfl ?_
        refine hK _ ?_
        clear hK K
        refine wpStill_step (fun K hK => ?_)
        refine still_load24 hL.out 4 rfl (digest_len _) (by rfl) _ rfl rfl ?_
        refine hK _ ?_
        clear hK K
        still_step
        still_step
        still_step
        still_step
        still_step
        still_call (equal_two (digest Za) (digest Za) (digest_len _) (box_reads hL.out 2 rfl) (digest_byte _) (digest_len _) (box_reads hL.out 4 rfl) (digest_byte _) (by decide) true (by simp))
        still_step
        still_step
        still_step
        still_step
        still_call (equal_two (digest Za) (digest Zb) (digest_len _) (box_reads hL.out 2 rfl) (digest_byte _) (digest_len _) (box_reads hL.out 3 rfl) (digest_byte _) (by decide) (decide (digest Za = digest Zb)) rfl)
        refine wpStill_step (fun K hK => ?_)
        refine still_load24 hL.out 2 rfl (digest_len _) (by rfl) _ rfl rfl ?_
        refine hK _ ?_
        clear hK K
        refine wpStill_step (fun K hK => ?_)
        refine still_load24 hL.out 3 rfl (digest_len _) (by rfl) _ rfl rfl ?_
        refine hK _ ?_
        clear hK K
        still_step
        still_step
        still_step
        still_step
        still_step
        still_step
        still_call (equal_two (digest Za) ((digest Zb).take 19) (digest_len _) (box_reads hL.out 2 rfl) (digest_byte _) (by rw [List.length_take, digest_len]; rfl) ((box_reads hL.out 3 rfl).take 19) (fun x hx => digest_byte _ x (List.mem_of_mem_take hx)) (by decide) false hne.out)
        still_step
        still_step
        still_step
        refine wpStill_nil ?_
        go_wp2
        go_ret
        exact ⟨rfl, hL.out.below⟩)
end Go.Proofs.Ytijnmoceafcamaa.Sha
