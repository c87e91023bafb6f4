/- ShaChunks: for any bytes and any length of the pieces the law returns true and changes nothing that was there. Condition: none but that the row lies in memory. -/
import Derived.Test.YtijnmoceafcamaaShaText
namespace Go.Proofs.Ytijnmoceafcamaa.Sha
set_option linter.unusedVariables false
set_option linter.unusedSimpArgs false
open Go.RowKit
open Go.Proofs.YtijnmoceafcamaaW.PrintWords Go.Proofs.YtijnmoceafcamaaW.PrintMore
attribute [local go_sem] max2_int min2_int max_two min_two
attribute [local go_sem] run_eql_digest run_neq_digest
attribute [-go_sem] run_eql_struct run_neq_struct
def RelCh (w : World) (p : List Int) (G : Nat) (v : Value) (W : World) : Prop := ∃ (j : Nat) (gl : Option Nat), j ≤ 1200 ∧ v = .int .i64 j ∧ Owns w W [hashR G (p.take j) gl]
set_option maxHeartbeats 1000000 in
set_option maxRecDepth 100000 in
theorem shaChunks_calls (A0 : Option Addr) (c0 : Nat) (l0 : List Int) (a1 : Int) (w : World)
    (hr0 : ReadsB w A0 l0) (hc0 : l0.length ≤ c0) (hb0 : ∀ x ∈ l0, 0 ≤ x ∧ x ≤ 255) (w1 : (Lit.int .i64 a1).wf = true) :
    Calls Try.prog 8 #[.slice A0 l0.length c0, .int .i64 a1] w fun e w' => e = .returned (.bool true) ∧ Below w.heap.size w w' := by
  clear w1
  obtain ⟨n0, p0, hm0, hn0, hk0, hnc0, hnl0, hpe, hp0, hpb0⟩ := cutB 1000 (by decide) hr0 hc0 hb0
  replace hp0 := Aside0.mk hp0
  replace hpb0 := Aside0.mk hpb0
  replace hn0 := Aside0.mk hn0
  clear hr0 hb0 hpe
  replace hk0 : (n0 : Int) ≤ 1000 := by omega
  obtain ⟨q, hq, hq0, hq1⟩ : ∃ q : Int, Int.tmod (Go.bits .and .i64 a1 65535) 200 = q ∧ 0 ≤ q ∧ q ≤ 199 := and_low_mod a1 65535 200 (by decide) (by decide)
  go_enter Try.func8, Try.ntmps8
  go_wp2_with (first
    | (go_at_call 24; refine (own_new hO1.out).mono ?_; rintro e w2 ⟨G, gl, rfl, h2⟩; have hO2 := Aside0.mk h2; clear h2)
    | (go_at_call 20; refine (shown_calls w).mono ?_; rintro e w1 ⟨rfl, h1⟩; have hO1 := Aside0.mk ((Owns.start w).stay (Keeps.of_below h1 _)); clear h1))
  go_loopw [7] (RelCh w p0 G) (fun v _ => (1200 - intOf v).toNat)
  case atStart => exact ⟨0, gl, by omega, rfl, by simpa using hO2.out⟩
  case round =>
    obtain ⟨j, glj, hj, rfl, hJ⟩ := hrel
    by_cases hjn : (j : Int) < n0
    · obtain ⟨m, hm, hjm, hmn, hmq⟩ : ∃ m : Nat, (if (n0 : Int) < (j : Int) + (1 + q) then (n0 : Int) else (j : Int) + (1 + q)) = (m : Int) ∧ (j : Int) ≤ m ∧ (m : Int) ≤ n0 ∧ ((m : Int) = n0 ∨ (m : Int) = j + (1 + q)) := ⟨(if (n0 : Int) < (j : Int) + (1 + q) then (n0 : Int) else (j : Int) + (1 + q)).toNat, by split <;> omega, by split <;> omega, by split <;> omega, by split <;> omega⟩
      replace hmq := Aside0.mk hmq
      have hjm2 : j < m := by have := hmq.out; omega
      have hmn2 : m ≤ n0 := by omega
      replace hm := Aside0.mk hm
      replace hJ := Aside0.mk hJ
      have hm' := hm.out
      go_wp2_with (first
        | (go_at_call 25; refine (own_put hJ.out 0 rfl _ A' N c' hN.out hrd.out (fun x hx => hpb0.out x (List.mem_of_mem_drop (List.mem_of_mem_take hx))) (by have := hNe.out; rw [List.length_take]; omega)).mono ?_; rintro e w4 ⟨rfl, gl4, h4'⟩; have h4 := Aside0.mk h4'; clear h4')
        | (refine own_cut rfl _ _ _ rfl rfl j m rfl rfl rfl rfl p0 hn0.out (hp0.out.below hJ.out.below) hjm2 hmn2 hnc0 ?_; intro A' c' N hN0 hNe0 hrd0; have hNe := Aside0.mk hNe0; have hN := Aside0.mk hN0; have hrd := Aside0.mk hrd0; clear hN0 hrd0 hNe0))
      refine ⟨⟨j + (1 + q.toNat), gl4, by omega, by congr 1; omega, ?_⟩, by simp [intOf]; omega⟩
      have e : p0.take j ++ (p0.drop j).take (m - j) = p0.take (j + (1 + q.toNat)) := by
        have e1 : p0.take j ++ (p0.drop j).take (m - j) = p0.take m := by
          rw [← List.take_add]
          congr 1
          omega
        rw [e1]
        rcases hmq.out with e2 | e2
        · rw [List.take_of_length_le (by have := hn0.out; omega), List.take_of_length_le (by have := hn0.out; omega)]
        · congr 1
          omega
      have h5 := h4.out
      rw [e] at h5
      exact h5
    · have htk : p0.take j = p0 := List.take_of_length_le (by have := hn0.out; omega)
      rw [htk] at hJ
      replace hJ := Aside0.mk hJ
      clear htk
      go_wp2_with (first
        | (go_at_call 21; refine (own_sum h4.out _ _ _ _ hn0.out (hp0.out.below h4.out.below) hpb0.out (by omega)).mono ?_; rintro e w5 ⟨rfl, h5'⟩; have h5 := Aside0.mk h5'; clear h5')
        | (go_at_call 26; refine (own_hsum hJ.out 0 rfl (by have := hn0.out; omega)).mono ?_; rintro e w4 ⟨rfl, h4'⟩; have h4 := Aside0.mk h4'; clear h4'))
      go_ret
      exact ⟨rfl, h5.out.below⟩
end Go.Proofs.Ytijnmoceafcamaa.Sha
