/- MacTwice: for any key and message the law returns true and changes nothing that was there. Condition: none but that the rows lie in memory. -/
import Derived.Test.YtijnmoceafcamaaMacEq
namespace Go.Proofs.Ytijnmoceafcamaa.Sha
set_option linter.unusedVariables false
set_option linter.unusedSimpArgs false
open Go.RowKit
open Go.Proofs.YtijnmoceafcamaaW.PrintWords Go.Proofs.YtijnmoceafcamaaW.PrintMore
attribute [local go_sem] max2_int min2_int max_two min_two
attribute [local go_sem] run_eql_digest run_neq_digest
attribute [-go_sem] run_eql_struct run_neq_struct
def RelTw (w : World) (P : List Int) (g G H : Nat) (v : Value) (W : World) : Prop := ∃ (j : Nat) (gl hl : Option Nat), j ≤ 64 ∧ v = .int .i64 j ∧ Owns w W [rowR (.slice (some ⟨g, 0, none⟩) 64 64) P (some g), hashR G ((P.take j).map fun x => xor8 x 54) gl, hashR H ((P.take j).map fun x => xor8 x 92) hl]
set_option maxHeartbeats 1000000 in
set_option maxRecDepth 100000 in
theorem macTwice_calls (A0 : Option Addr) (c0 : Nat) (l0 : List Int) (A1 : Option Addr) (c1 : Nat) (l1 : List Int) (w : World)
    (hr0 : ReadsB w A0 l0) (hc0 : l0.length ≤ c0) (hb0 : ∀ x ∈ l0, 0 ≤ x ∧ x ≤ 255) (hr1 : ReadsB w A1 l1) (hc1 : l1.length ≤ c1) (hb1 : ∀ x ∈ l1, 0 ≤ x ∧ x ≤ 255) :
    Calls Try.prog 10 #[.slice A0 l0.length c0, .slice A1 l1.length c1] w fun e w' => e = .returned (.bool true) ∧ Below w.heap.size w w' := by
  obtain ⟨n1, p1, hm1, hn1, hk1, hnc1, hnl1, hpe, hp1, hpb1⟩ := cutB 500 (by decide) hr1 hc1 hb1
  replace hr0 := Aside0.mk hr0
  replace hb0 := Aside0.mk hb0
  replace hp1 := Aside0.mk hp1
  replace hpb1 := Aside0.mk hpb1
  replace hn1 := Aside0.mk hn1
  clear hr1 hb1 hpe
  replace hk1 : (n1 : Int) ≤ 500 := by omega
  go_enter Try.func10, Try.ntmps10
  go_wp2_with (first
    | (go_at_call 24; refine (own_new h4.out).mono ?_; rintro e w5 ⟨H, hl, rfl, h50⟩; have h5 := Aside0.mk h50; clear h50)
    | (go_at_call 24; refine (own_new h3.out).mono ?_; rintro e w4 ⟨G, gl, rfl, h40⟩; have h4 := Aside0.mk h40; clear h40)
    | (refine own_copy h2.out 0 rfl (List.length_replicate ..) rfl _ _ rfl rfl rfl l0 rfl (hr0.out.below h2.out.below) ?_; intro v3 w3 h30; have h3 := Aside0.mk h30; clear h30)
    | (refine own_make h1.out rfl _ _ rfl 64 rfl rfl rfl (by decide) ?_; intro g w2 h20; have h2 := Aside0.mk h20; clear h20)
    | (go_at_call 29; refine (macShown_calls w).mono ?_; rintro e w1 ⟨rfl, h10⟩; have h1 := Aside0.mk ((Owns.start w).stay (Keeps.of_below h10 _)); clear h10))
  have hP : Aside0 (l0.take 64 ++ (List.replicate 64 0).drop l0.length = pad64 l0) := Aside0.mk rfl
  have hPb := Aside0.mk (pad64_byte hb0.out)
  have hPl := Aside0.mk (pad64_len l0)
  generalize pad64 l0 = P at *
  go_loopw [9] (RelTw w P g G H) (fun v _ => (64 - intOf v).toNat)
  case atStart => exact ⟨0, gl, hl, by omega, rfl, by have h := h5.out; rw [hP.out] at h; exact h⟩
  case round =>
    obtain ⟨j, glj, hlj, hj, rfl, hJ⟩ := hrel
    by_cases hj64 : (j : Int) < 64
    · obtain ⟨g', o, e, hc1', _, _⟩ := own_at hJ 0 rfl j (by omega) hPl.out
      injection e with e
      injection e with e1 e2
      subst e1
      subst e2
      rw [Nat.zero_add] at hc1'
      have e54 := Aside0.mk (take_succ_map P (fun x => xor8 x 54) j (by have := hPl.out; omega))
      have e92 := Aside0.mk (take_succ_map P (fun x => xor8 x 92) j (by have := hPl.out; omega))
      have hcB : Aside0 (∀ W rs, Owns w W (rowR (.slice (some ⟨g, 0, none⟩) 64 64) P (some g) :: rs) → W.cell? ⟨g, j, none⟩ = some (.int .u8 (P.getD j 0))) := Aside0.mk (fun W rs h => by
        obtain ⟨g', o, e, hc, _, _⟩ := own_at h 0 rfl j (by omega) hPl.out
        injection e with e
        injection e with e1 e2
        subst e1
        subst e2
        rw [Nat.zero_add] at hc
        exact hc)
      generalize P.getD j 0 = x at *
      replace hJ := Aside0.mk hJ
      have hA := Aside0.mk (hJ.out.laid (.cells (bcells [xor8 x 54]) 5 (0, 0)))
      go_wp2_with (first
        | (go_at_call 25; refine (own_put hC.out 2 rfl [xor8 x 92] _ 1 1 rfl (reads_new wB [xor8 x 92] (0, 0)) (by intro z hz; rw [List.mem_singleton.1 hz]; exact xor8_byte _ _) (by rw [List.length_map, List.length_take]; omega)).mono ?_; rintro e wD ⟨rfl, hlD, hD0⟩; have hD := Aside0.mk hD0; clear hD0)
        | (go_at_call 25; refine (own_put hA.out 1 rfl [xor8 x 54] _ 1 1 rfl (reads_new wr [xor8 x 54] (0, 0)) (by intro z hz; rw [List.mem_singleton.1 hz]; exact xor8_byte _ _) (by rw [List.length_map, List.length_take]; omega)).mono ?_; rintro e wB ⟨rfl, glB, hB0⟩; have hB := Aside0.mk hB0; have hcB2 := hcB.out _ _ hB0; have hC := Aside0.mk (hB0.laid (.cells (bcells [xor8 x 92]) 5 (0, 0))); clear hB0))
      refine ⟨⟨j + 1, glB, hlD, by omega, by rfl, ?_⟩, by simp only [intOf]; omega⟩
      have h := hD.out
      have h54 := e54.out
      have h92 := e92.out
      rw [← h54, ← h92]
      exact h
    · obtain rfl : j = 64 := by omega
      have hPt : P.take 64 = P := List.take_of_length_le (by have := hPl.out; omega)
      rw [hPt] at hJ
      replace hJ := Aside0.mk hJ
      clear hPt
      have hZ : Aside0 (macP P p1 = P.map (fun x => xor8 x 92) ++ digest (P.map (fun x => xor8 x 54) ++ p1)) := Aside0.mk (by
        have h1 : key64 P = P := if_pos (by have := hPl.out; omega)
        rw [macP, h1, xorK, xorK, pad64_full hPl.out])
      go_wp2_with (first
        | (go_at_call 30; refine (own_mac hO6.out P p1 hPl.out (own_reads hO6.out 0 rfl) hPb.out hn1.out (hp1.out.below hO6.out.below) hpb1.out (by decide) (by omega) _ hZ.out).mono ?_; rintro e x7 ⟨rfl, h⟩; have hO7 := Aside0.mk h; clear h)
        | (go_at_call 26; refine (own_hsum hO5.out 2 rfl (by rw [List.length_append, List.length_map, digest_len]; have := hPl.out; omega)).mono ?_; rintro e x6 ⟨rfl, h⟩; have hO6 := Aside0.mk h; clear h)
        | (go_at_call 25; refine (own_put hO4.out 2 rfl _ _ 20 20 (digest_len _) (box_reads hO4.out 3 rfl) (digest_byte _) (by rw [List.length_map]; have := hPl.out; omega)).mono ?_; rintro e x5 ⟨rfl, g5, h⟩; have hO5 := Aside0.mk h; clear h)
        | (refine store24 hO3.out 3 rfl rfl _ _ rfl _ rfl rfl (by simp) (digest_len _) ?_; intro x4 h; have hO4 := Aside0.mk h; clear h)
        | (refine alloc24 hO2.out rfl rfl ?_; intro S x3 h; have hO3 := Aside0.mk h; clear h)
        | (go_at_call 26; refine (own_hsum hO1.out 1 rfl (by rw [List.length_append, List.length_map, hn1.out]; have := hPl.out; omega)).mono ?_; rintro e x2 ⟨rfl, h⟩; have hO2 := Aside0.mk h; clear h)
        | (go_at_call 25; refine (own_put hJ.out 1 rfl p1 A1 n1 c1 hn1.out (hp1.out.below hJ.out.below) hpb1.out (by rw [List.length_map]; have := hPl.out; omega)).mono ?_; rintro e x1 ⟨rfl, g1, h⟩; have hO1 := Aside0.mk h; clear h))
      go_ret
      exact ⟨rfl, hO7.out.below⟩
end Go.Proofs.Ytijnmoceafcamaa.Sha
