/- MacSums: for any key, message and other bytes the law returns true and changes nothing that was there. Condition: none but that the rows lie in memory. -/
import Derived.Test.YtijnmoceafcamaaRefMac
import Derived.Test.YtijnmoceafcamaaMacStep
namespace Go.Proofs.Ytijnmoceafcamaa.Sha
set_option linter.unusedVariables false
set_option linter.unusedSimpArgs false
open Go.RowKit
open Go.Proofs.YtijnmoceafcamaaW.PrintWords Go.Proofs.YtijnmoceafcamaaW.PrintMore
attribute [local go_sem] max2_int min2_int max_two min_two
theorem str_beq {p q : List Int} (hp : ∀ x ∈ p, 0 ≤ x ∧ x ≤ 255) (hq : ∀ x ∈ q, 0 ≤ x ∧ x ≤ 255) : ((strOfNums p).toList == (strOfNums q).toList) = decide (p = q) := by
  rw [← u8s_beq hp hq]
  have h : ∀ r : List Int, (strOfNums r).toList = u8s r := fun r => by
    rw [ByteArray.toList_eq]
    rfl
  rw [h, h]
set_option maxHeartbeats 2000000 in
set_option maxRecDepth 100000 in
theorem macSums_calls (A0 : Option Addr) (c0 : Nat) (l0 : List Int) (A1 : Option Addr) (c1 : Nat) (l1 : List Int) (A2 : Option Addr) (c2 : Nat) (l2 : List Int) (w : World)
    (hr0 : ReadsB w A0 l0) (hc0 : l0.length ≤ c0) (hb0 : ∀ x ∈ l0, 0 ≤ x ∧ x ≤ 255) (hr1 : ReadsB w A1 l1) (hc1 : l1.length ≤ c1) (hb1 : ∀ x ∈ l1, 0 ≤ x ∧ x ≤ 255) (hr2 : ReadsB w A2 l2) (hc2 : l2.length ≤ c2) (hb2 : ∀ x ∈ l2, 0 ≤ x ∧ x ≤ 255) :
    Calls Try.prog 12 #[.slice A0 l0.length c0, .slice A1 l1.length c1, .slice A2 l2.length c2] w fun e w' => e = .returned (.bool true) ∧ Below w.heap.size w w' := by
  obtain ⟨n0, p0, hm0, hn0, hk0, hnc0, hnl0, hpe0, hp0, hpb0⟩ := cutB 300 (by decide) hr0 hc0 hb0
  obtain ⟨n1, p1, hm1, hn1, hk1, hnc1, hnl1, hpe1, hp1, hpb1⟩ := cutB 1000 (by decide) hr1 hc1 hb1
  obtain ⟨n2, p2, hm2, hn2, hk2, hnc2, hnl2, hpe2, hp2, hpb2⟩ := cutB 1000 (by decide) hr2 hc2 hb2
  have hcm := Aside0.mk (str_beq hpb1 hpb2)
  replace hp0 := Aside0.mk hp0
  replace hpb0 := Aside0.mk hpb0
  replace hn0 := Aside0.mk hn0
  replace hp1 := Aside0.mk hp1
  replace hpb1 := Aside0.mk hpb1
  replace hn1 := Aside0.mk hn1
  replace hp2 := Aside0.mk hp2
  replace hpb2 := Aside0.mk hpb2
  replace hn2 := Aside0.mk hn2
  clear hr0 hb0 hpe0 hr1 hb1 hpe1 hr2 hb2 hpe2
  replace hk0 : (n0 : Int) ≤ 300 := by omega
  replace hk1 : (n1 : Int) ≤ 1000 := by omega
  replace hk2 : (n2 : Int) ≤ 1000 := by omega
  obtain ⟨Z, hZ⟩ : ∃ Z, macP p0 p1 = Z := ⟨_, rfl⟩
  have hF : Aside0 (macF p0 p1 = digest Z) := Aside0.mk (by rw [← hZ]; rfl)
  replace hZ := Aside0.mk hZ
  go_enter Try.func12, Try.ntmps12
  go_wp2_with (first
    | (refine store24 h5.out 2 rfl rfl _ _ rfl _ rfl rfl (by simp) (digest_len _) ?_; intro x6 h; have h6 : Aside0 (Owns w x6 [rowR (.slice Ak Nk ck) p0 gk, rowR (.slice Am Nm cm) p1 gm, boxR S (digest Z)]) := Aside0.mk h; clear h)
    | (refine alloc24 h4.out rfl rfl ?_; intro S x5 h; have h5 := Aside0.mk h; clear h)
    | (go_at_call 30; refine (own_mac h3.out p0 p1 hNk.out (own_reads h3.out 0 rfl) hpb0.out hNm.out (own_reads h3.out 1 rfl) hpb1.out (by have := hNk.out; have := hn0.out; omega) (by have := hNm.out; have := hn1.out; omega) Z hZ.out).mono ?_; rintro e x4 ⟨rfl, h⟩; have h4 := Aside0.mk h; clear h)
    | (refine own_append he2.out 1 rfl rfl _ _ rfl rfl rfl rfl p1 hn1.out (hp1.out.below he2.out.below) (by simp; omega) ?_; intro Am cm Nm x3 gm hNm hcm1 h; have h3 : Aside0 (Owns w x3 [rowR (.slice Ak Nk ck) p0 gk, rowR (.slice Am Nm cm) p1 gm]) := Aside0.mk h; replace hNm : Aside0 (p1.length = Nm) := Aside0.mk hNm; clear h)
    | (refine own_append he.out 0 rfl rfl _ _ rfl rfl rfl rfl p0 hn0.out (hp0.out.below he.out.below) (by simp; omega) ?_; intro Ak ck Nk x2 gk hNk hck h; have he2 := Aside0.mk h.empty; replace hNk : Aside0 (p0.length = Nk) := Aside0.mk hNk; clear h)
    | (go_at_call 29; refine (macShown_calls w).mono ?_; rintro e w1 ⟨rfl, h10⟩; have he := Aside0.mk ((Owns.start w).stay (Keeps.of_below h10 _)).empty; clear h10))
  clear he he2 h3 h4 h5
  have hbk : Aside0 (Nk ≤ 1000 ∧ Nm ≤ 1000 ∧ n0 ≤ 1000 ∧ n1 ≤ 1000 ∧ n2 ≤ 1000) := Aside0.mk (by have := hNk.out; have := hNm.out; have := hn0.out; have := hn1.out; omega)
  refine wp_region_still_lit (by kernel_rfl) (by kernel_rfl) ?_
  generalize hw6 : ({ x6 with drawn := x6.drawn + 1 } : World) = w6
  have h7 : Aside0 (Owns w w6 [rowR (.slice Ak Nk ck) p0 gk, rowR (.slice Am Nm cm) p1 gm, boxR S (digest Z)]) := Aside0.mk (by rw [← hw6]; exact h6.out.alter _)
  clear hw6
  have hc1 : (convert 22 9 (.slice A1 n1 c1)).run Try.prog w6 = .ok (.string (strOfNums p1)) w6 := conv_mac (hp1.out.below h7.out.below) hn1.out (by have := hbk.out; omega)
  have hc2 : (convert 22 9 (.slice A2 n2 c2)).run Try.prog w6 = .ok (.string (strOfNums p2)) w6 := conv_mac (hp2.out.below h7.out.below) hn2.out (by have := hbk.out; omega)
  have hcm2 := hcm.out
  still_step
  still_step
  still_call (equal_two p1 p2 hNm.out (own_reads h7.out 1 rfl) hpb1.out hn2.out (hp2.out.below h7.out.below) hpb2.out (by have := hbk.out; omega) (decide (p1 = p2)) rfl)
  repeat still_step
  still_call (equal_two p1 p1 hNm.out (own_reads h7.out 1 rfl) hpb1.out hn1.out (hp1.out.below h7.out.below) hpb1.out (by have := hbk.out; omega) true (by simp))
  repeat still_step
  refine wpStill_nil ?_
  clear hc1 hc2 hcm2 h6
  have hS : Aside0 (∀ W, Owns w W [rowR (.slice Ak Nk ck) p0 gk, rowR (.slice Am Nm cm) p1 gm, boxR S (digest Z)] → (convert 22 9 (.slice (some ⟨S, 0, none⟩) 20 20)).run Try.prog W = .ok (.string (strOfNums (digest Z))) W ∧ (convert 22 9 (.slice A0 n0 c0)).run Try.prog W = .ok (.string (strOfNums p0)) W ∧ (convert 22 9 (.slice A1 n1 c1)).run Try.prog W = .ok (.string (strOfNums p1)) W ∧ (convert 22 9 (.slice Ak Nk ck)).run Try.prog W = .ok (.string (strOfNums p0)) W ∧ (convert 22 9 (.slice Am Nm cm)).run Try.prog W = .ok (.string (strOfNums p1)) W ∧ Owns w W [rowR (.slice Ak Nk ck) p0 gk, rowR (.slice Am Nm cm) p1 gm, boxR S (digest Z)]) := Aside0.mk (fun W h => ⟨conv_box (h.ok 2 _ rfl) (digest_len _), conv_mac (hp0.out.below h.below) hn0.out (by have := hbk.out; omega), conv_mac (hp1.out.below h.below) hn1.out (by have := hbk.out; omega), conv_mac (own_reads h 0 rfl) hNk.out (by have := hbk.out; omega), conv_mac (own_reads h 1 rfl) hNm.out (by have := hbk.out; omega), h⟩)
  have hrc : Aside0 (∀ w, Calls Try.prog 32 #[.string (strOfNums p0), .string (strOfNums p1)] w fun e w' => e = .returned (.string (strOfNums (digest Z))) ∧ Below w.heap.size w w') := Aside0.mk (fun w => by
    have h := refMac_calls p0 p1 w hpb0.out hpb1.out (by have := hn0.out; omega) (by have := hn1.out; omega)
    rw [hF.out] at h
    exact h)
  go_wp2
  go_region_held3 (fun W => (convert 22 9 (.slice (some ⟨S, 0, none⟩) 20 20)).run Try.prog W = .ok (.string (strOfNums (digest Z))) W ∧ (convert 22 9 (.slice A0 n0 c0)).run Try.prog W = .ok (.string (strOfNums p0)) W ∧ (convert 22 9 (.slice A1 n1 c1)).run Try.prog W = .ok (.string (strOfNums p1)) W ∧ (convert 22 9 (.slice Ak Nk ck)).run Try.prog W = .ok (.string (strOfNums p0)) W ∧ (convert 22 9 (.slice Am Nm cm)).run Try.prog W = .ok (.string (strOfNums p1)) W ∧ Owns w W [rowR (.slice Ak Nk ck) p0 gk, rowR (.slice Am Nm cm) p1 gm, boxR S (digest Z)])
    (first
      | exact hS.out _ h7.out.drew
      | exact hS.out _ m1.out
      | assumption)
    (first
      | (go_at_call 32; have hq := h7.out.drew; refine (hrc.out _).mono ?_; rintro e x1 ⟨rfl, hb⟩; have m1 := Aside0.mk (hq.stay (Keeps.of_below hb _)); clear hq hb))
  go_wp2
  go_ret
  exact ⟨rfl, m1.out.below⟩
end Go.Proofs.Ytijnmoceafcamaa.Sha
