/- ShaClones: for any bytes the law returns true and changes nothing that was there. Condition: none but that the rows lie in memory. -/
import Derived.Test.YtijnmoceafcamaaShaText
namespace Go.Proofs.Ytijnmoceafcamaa.Sha
set_option linter.unusedVariables false
set_option linter.unusedSimpArgs false
open Go.RowKit
open Go.Proofs.YtijnmoceafcamaaW.PrintWords Go.Proofs.YtijnmoceafcamaaW.PrintMore
attribute [local go_sem] max2_int min2_int max_two min_two
attribute [local go_sem] run_eql_digest run_neq_digest
attribute [-go_sem] run_eql_struct run_neq_struct
set_option maxHeartbeats 1000000 in
set_option maxRecDepth 100000 in
theorem shaClones_calls (A0 : Option Addr) (c0 : Nat) (l0 : List Int) (A1 : Option Addr) (c1 : Nat) (l1 : List Int) (A2 : Option Addr) (c2 : Nat) (l2 : List Int) (w : World)
    (hr0 : ReadsB w A0 l0) (hc0 : l0.length ≤ c0) (hb0 : ∀ x ∈ l0, 0 ≤ x ∧ x ≤ 255) (hr1 : ReadsB w A1 l1) (hc1 : l1.length ≤ c1) (hb1 : ∀ x ∈ l1, 0 ≤ x ∧ x ≤ 255) (hr2 : ReadsB w A2 l2) (hc2 : l2.length ≤ c2) (hb2 : ∀ x ∈ l2, 0 ≤ x ∧ x ≤ 255) :
    Calls Try.prog 5 #[.slice A0 l0.length c0, .slice A1 l1.length c1, .slice A2 l2.length c2] w fun e w' => e = .returned (.bool true) ∧ Below w.heap.size w w' := by
  obtain ⟨n0, p0, hm0, hn0, hk0, hnc0, hnl0, _, hp0, hpb0⟩ := cutB 1000 (by decide) hr0 hc0 hb0
  obtain ⟨n1, p1, hm1, hn1, hk1, hnc1, hnl1, _, hp1, hpb1⟩ := cutB 1000 (by decide) hr1 hc1 hb1
  obtain ⟨n2, p2, hm2, hn2, hk2, hnc2, hnl2, _, hp2, hpb2⟩ := cutB 1000 (by decide) hr2 hc2 hb2
  replace hp0 := Aside0.mk hp0
  replace hp1 := Aside0.mk hp1
  replace hp2 := Aside0.mk hp2
  replace hpb0 := Aside0.mk hpb0
  replace hpb1 := Aside0.mk hpb1
  replace hpb2 := Aside0.mk hpb2
  replace hn0 := Aside0.mk hn0
  replace hn1 := Aside0.mk hn1
  replace hn2 := Aside0.mk hn2
  clear hr0 hb0 hr1 hb1 hr2 hb2
  replace hk0 : (n0 : Int) ≤ 1000 := by omega
  replace hk1 : (n1 : Int) ≤ 1000 := by omega
  replace hk2 : (n2 : Int) ≤ 1000 := by omega
  go_enter Try.func5, Try.ntmps5
  go_wp2_with (first
    | (go_at_call 21; refine (own_sum hOf.out _ _ _ _ hNc.out (own_reads hOf.out 3 rfl) (by simp only [List.nil_append]; exact byte2 hpb0.out hpb2.out) (by rw [← hNc.out]; simp [hn0.out, hn1.out, hn2.out]; omega)).mono ?_; rintro e wg ⟨rfl, hg⟩; have hOg := Aside0.mk hg; clear hg)
    | (go_at_call 26; refine (own_hsum hOe.out 1 rfl (by simp [hn0.out, hn1.out, hn2.out]; omega)).mono ?_; rintro e wf ⟨rfl, hf⟩; have hOf := Aside0.mk hf; clear hf)
    | (go_at_call 21; refine (own_sum hOd.out _ _ _ _ hNa.out (own_reads hOd.out 2 rfl) (by simp only [List.nil_append]; exact byte3 hpb0.out hpb1.out hpb2.out) (by rw [← hNa.out]; simp [hn0.out, hn1.out, hn2.out]; omega)).mono ?_; rintro e we ⟨rfl, he⟩; have hOe := Aside0.mk he; clear he)
    | (go_at_call 26; refine (own_hsum hOc.out 0 rfl (by simp [hn0.out, hn1.out, hn2.out]; omega)).mono ?_; rintro e wd ⟨rfl, hd⟩; have hOd := Aside0.mk hd; clear hd)
    | (refine own_append hOb.out 3 rfl rfl _ _ rfl rfl rfl rfl p2 hn2.out (hp2.out.below hOb.out.below) (by simp [hn0.out]; omega) ?_; intro Ac cc Nc wc glc hNc hcc hc; have hOc := Aside0.mk hc; replace hNc := Aside0.mk hNc; clear hc)
    | (refine own_append hEa.out 3 rfl rfl _ _ rfl rfl rfl rfl p0 hn0.out (hp0.out.below hEa.out.below) (by simp; omega) ?_; intro Ab cb Nb wb glb hNb hcb hb; have hOb := Aside0.mk hb; replace hNb := Aside0.mk hNb; clear hb)
    | (refine own_append hO9.out 2 rfl rfl _ _ rfl rfl rfl rfl p2 hn2.out (hp2.out.below hO9.out.below) (by simp [hn0.out, hn1.out]; omega) ?_; intro Aa ca Na wa gla hNa hca ha; have hOa := Aside0.mk ha; have hEa := Aside0.mk ha.empty; replace hNa := Aside0.mk hNa; clear ha)
    | (refine own_append hO8.out 2 rfl rfl _ _ rfl rfl rfl rfl p1 hn1.out (hp1.out.below hO8.out.below) (by simp [hn0.out]; omega) ?_; intro A9 c9 N9 w9 gl9 hN9 hc9 h9; have hO9 := Aside0.mk h9; replace hN9 := Aside0.mk hN9; clear h9)
    | (refine own_append hE7.out 2 rfl rfl _ _ rfl rfl rfl rfl p0 hn0.out (hp0.out.below hE7.out.below) (by simp; omega) ?_; intro A8 c8 N8 w8 gl8 hN8 hc8 h8; have hO8 := Aside0.mk h8; replace hN8 := Aside0.mk hN8; clear h8)
    | (go_at_call 25; refine (own_put hO6.out 0 rfl p2 A2 n2 c2 hn2.out (hp2.out.below hO6.out.below) hpb2.out (by simp [hn0.out, hn1.out]; omega)).mono ?_; rintro e w7 ⟨rfl, gl7, h7⟩; have hO7 := Aside0.mk h7; have hE7 := Aside0.mk h7.empty; clear h7)
    | (go_at_call 25; refine (own_put hO5.out 1 rfl p2 A2 n2 c2 hn2.out (hp2.out.below hO5.out.below) hpb2.out (by simp [hn0.out]; omega)).mono ?_; rintro e w6 ⟨rfl, gl6, h6⟩; have hO6 := Aside0.mk h6; clear h6)
    | (go_at_call 25; refine (own_put hO4.out 0 rfl p1 A1 n1 c1 hn1.out (hp1.out.below hO4.out.below) hpb1.out (by simp [hn0.out]; omega)).mono ?_; rintro e w5 ⟨rfl, gl5, h5⟩; have hO5 := Aside0.mk h5; clear h5)
    | (go_at_call 27; refine (own_clone hO3.out 0 rfl).mono ?_; rintro e w4 ⟨H, hl, rfl, h4⟩; have hO4 := Aside0.mk h4; clear h4)
    | (go_at_call 25; refine (own_put hO2.out 0 rfl p0 A0 n0 c0 hn0.out (hp0.out.below hO2.out.below) hpb0.out (by simp; omega)).mono ?_; rintro e w3 ⟨rfl, gl3, h3⟩; have hO3 := Aside0.mk h3; clear h3)
    | (go_at_call 24; refine (own_new hO1.out).mono ?_; rintro e w2 ⟨G, gl, rfl, h2⟩; have hO2 := Aside0.mk h2; clear h2)
    | (go_at_call 20; refine (shown_calls w).mono ?_; rintro e w1 ⟨rfl, h1⟩; have hO1 := Aside0.mk ((Owns.start w).stay (Keeps.of_below h1 _)); clear h1))
  go_ret
  exact ⟨rfl, hOg.out.below⟩
end Go.Proofs.Ytijnmoceafcamaa.Sha
