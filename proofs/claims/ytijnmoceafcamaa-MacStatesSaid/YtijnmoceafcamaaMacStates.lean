/- MacStates: for any key and messages the law returns true and changes nothing that was there. Condition: none but that the rows lie in memory. -/
import Derived.Test.YtijnmoceafcamaaMacEq
namespace Go.Proofs.Ytijnmoceafcamaa.Sha
set_option linter.unusedVariables false
set_option linter.unusedSimpArgs false
open Go.RowKit
open Go.Proofs.YtijnmoceafcamaaW.PrintWords Go.Proofs.YtijnmoceafcamaaW.PrintMore
attribute [local go_sem] max2_int min2_int max_two min_two
attribute [local go_sem] run_eql_digest run_neq_digest
attribute [-go_sem] run_eql_struct run_neq_struct
def stR (A : Option Addr) (N c : Nat) (p : List Int) (gA : Option Nat) (P X Y : List Int) (g G H : Nat) (gl hl : Option Nat) : List Res := [rowR (.slice A N c) p gA, rowR (.slice (some ⟨g, 0, none⟩) 64 64) P (some g), hashR G X gl, hashR H Y hl]
def RelSt (w : World) (A : Option Addr) (N c : Nat) (p : List Int) (gA : Option Nat) (P : List Int) (g G H : Nat) (v : Value) (W : World) : Prop := ∃ (j : Nat) (gl hl : Option Nat), j ≤ 64 ∧ v = .int .i64 j ∧ Owns w W (stR A N c p gA P ((P.take j).map fun x => xor8 x 54) ((P.take j).map fun x => xor8 x 92) g G H gl hl)
def RelSu (w : World) (A : Option Addr) (N c : Nat) (p : List Int) (gA : Option Nat) (P : List Int) (g G H : Nat) (gl hl : Option Nat) (L : Nat) (v : Value) (W : World) : Prop := ∃ (i : Nat), (i ≤ 10 ∧ i ≤ L) ∧ v = .int .i64 i ∧ Owns w W (stR A N c p gA P (P.map fun x => xor8 x 54) (P.map fun x => xor8 x 92) g G H gl hl)
set_option maxHeartbeats 2000000 in
set_option maxRecDepth 100000 in
theorem macStates_calls (A0 : Option Addr) (c0 : Nat) (l0 : List Int) (A1 : Option Addr) (c1 : Nat) (ll : List (List Int)) (w : World)
    (hr0 : ReadsB w A0 l0) (hc0 : l0.length ≤ c0) (hb0 : ∀ x ∈ l0, 0 ≤ x ∧ x ≤ 255) (hr1 : Kd.C (Kd.slice 22 (Kd.int .u8)) w A1 ll.length ll) (hc1 : ll.length ≤ c1) (hb1 : ∀ r ∈ ll, ∀ x ∈ r, 0 ≤ x ∧ x ≤ 255) :
    Calls Try.prog 11 #[.slice A0 l0.length c0, .slice A1 ll.length c1] w fun e w' => e = .returned (.bool true) ∧ Below w.heap.size w w' := by
  obtain ⟨n0, p0, hm0, hn0, hk0, hnc0, hnl0, hpe, hp0, hpb0⟩ := cutB 200 (by decide) hr0 hc0 hb0
  replace hr1 := Aside0.mk hr1
  replace hb1 := Aside0.mk hb1
  replace hp0 := Aside0.mk hp0
  replace hpb0 := Aside0.mk hpb0
  replace hn0 := Aside0.mk hn0
  clear hr0 hb0 hpe
  replace hk0 : (n0 : Int) ≤ 200 := by omega
  go_enter Try.func11, Try.ntmps11
  go_wp2_with (first
    | (refine own_copy hs2.out 1 rfl (List.length_replicate ..) rfl _ _ rfl rfl rfl _ (digest_len _) (box_reads hs2.out 2 rfl) ?_; intro v3 w3 h30; have hN : Aside0 (Owns w w3 [rowR (.slice A2 N2 c2) p0 gl2, rowR (.slice (some ⟨g, 0, none⟩) 64 64) (pad64 (key64 p0)) (some g)]) := Aside0.mk (by have hP : pad64 (key64 p0) = (digest p0).take 64 ++ (List.replicate 64 0).drop 20 := (by rw [key64, if_neg (by have := hN2.out; rw [List.nil_append] at this; omega)]; rfl); rw [hP]; exact Owns.drop (rs := [_, _]) h30); clear h30)
    | (refine store24 hs1.out 2 rfl rfl _ _ rfl _ rfl rfl (by simp) (digest_len _) ?_; intro x4 h; have hs2 := Aside0.mk h; clear h)
    | (refine alloc24 hs0.out rfl rfl ?_; intro S x3 h; have hs1 := Aside0.mk h; clear h)
    | (go_at_call 21; refine (own_sumrow h3.out 0 rfl hN2.out (by rw [List.nil_append]; exact hpb0.out) (by have := hN2.out; have := hn0.out; rw [List.nil_append] at *; omega)).mono ?_; rintro e x2 ⟨rfl, h⟩; have hs0 := Aside0.mk h; clear h)
    | (refine own_copy h3.out 1 rfl (List.length_replicate ..) rfl _ _ rfl rfl rfl p0 hN2.out (own_reads h3.out 0 rfl) ?_; intro v3 w3 h30; have hN : Aside0 (Owns w w3 [rowR (.slice A2 N2 c2) p0 gl2, rowR (.slice (some ⟨g, 0, none⟩) 64 64) (pad64 (key64 p0)) (some g)]) := Aside0.mk (by have hP : pad64 (key64 p0) = p0.take 64 ++ (List.replicate 64 0).drop N2 := (by have h1 := hN2.out; rw [List.nil_append] at h1; rw [key64, if_pos (by omega), pad64, h1]); rw [hP]; exact h30); clear h30)
    | (refine own_make h2.out rfl _ _ rfl 64 rfl rfl rfl (by decide) ?_; intro g w3 h30; have h3 := Aside0.mk h30; clear h30)
    | (refine own_append he.out 0 rfl rfl _ _ rfl rfl rfl rfl p0 hn0.out (hp0.out.below he.out.below) (by simp; omega) ?_; intro A2 c2 N2 w2 gl2 hN2 hc2 h20; have h2 := Aside0.mk h20; replace hN2 := Aside0.mk hN2; clear h20)
    | (go_at_call 29; refine (macShown_calls w).mono ?_; rintro e w1 ⟨rfl, h10⟩; have h1 := Aside0.mk ((Owns.start w).stay (Keeps.of_below h10 _)); have he := Aside0.mk ((Owns.start w).stay (Keeps.of_below h10 _)).empty; clear h10)
    | (go_at_call 24; refine (own_new h4.out).mono ?_; rintro e w5 ⟨H, hl, rfl, h50⟩; have h5 := Aside0.mk h50; clear h50)
    | (go_at_call 24; refine (own_new hN.out).mono ?_; rintro e w4 ⟨G, gl, rfl, h40⟩; have h4 := Aside0.mk h40; clear h40))
  all_goals (
    have hN2b : Aside0 (p0.length = N2) := Aside0.mk hN2.out
    have hPb : Aside0 (∀ x ∈ pad64 (key64 p0), 0 ≤ x ∧ x ≤ 255) := Aside0.mk (pad64_byte (by
      rw [key64]
      split
      · exact hpb0.out
      · exact digest_byte _))
    have hPl := Aside0.mk (pad64_len (key64 p0))
    have hZ : Aside0 (∀ m, macP p0 m = (pad64 (key64 p0)).map (fun x => xor8 x 92) ++ digest ((pad64 (key64 p0)).map (fun x => xor8 x 54) ++ m)) := Aside0.mk (fun m => rfl)
    have h5b : Aside0 (Owns w w5 (stR A2 N2 c2 p0 gl2 (pad64 (key64 p0)) [] [] g G H gl hl)) := Aside0.mk h5.out
    clear h5 h4 hN hN2
    generalize pad64 (key64 p0) = P at *
    go_loopw [10] (RelSt w A2 N2 c2 p0 gl2 P g G H) (fun v _ => (64 - intOf v).toNat)
    case atStart => exact ⟨0, gl, hl, by omega, rfl, h5b.out⟩
    case round =>
      obtain ⟨j, glj, hlj, hj, rfl, hJ⟩ := hrel
      by_cases hj64 : (j : Int) < 64
      · have hcB : Aside0 (∀ W X Y a b, Owns w W (stR A2 N2 c2 p0 gl2 P X Y g G H a b) → W.cell? ⟨g, j, none⟩ = some (.int .u8 (P.getD j 0))) := Aside0.mk (fun W X Y a b h => by
          obtain ⟨g', o, e, hc, _, _⟩ := own_at h 1 rfl j (by omega) hPl.out
          injection e with e
          injection e with e1 e2
          subst e1
          subst e2
          rw [Nat.zero_add] at hc
          exact hc)
        have hc1' := hcB.out _ _ _ _ _ hJ
        have e54 := Aside0.mk (take_succ_map P (fun x => xor8 x 54) j (by have := hPl.out; omega))
        have e92 := Aside0.mk (take_succ_map P (fun x => xor8 x 92) j (by have := hPl.out; omega))
        generalize P.getD j 0 = x at *
        replace hJ := Aside0.mk hJ
        have hA := Aside0.mk (hJ.out.laid (.cells (bcells [xor8 x 54]) 5 (0, 0)))
        go_wp2_with (first
          | (go_at_call 25; refine (own_put hC.out 3 rfl [xor8 x 92] _ 1 1 rfl (reads_new wB [xor8 x 92] (0, 0)) (by intro z hz; rw [List.mem_singleton.1 hz]; exact xor8_byte _ _) (by rw [List.length_map, List.length_take]; omega)).mono ?_; rintro e wD ⟨rfl, hlD, hD0⟩; have hD := Aside0.mk hD0; clear hD0)
          | (go_at_call 25; refine (own_put hA.out 2 rfl [xor8 x 54] _ 1 1 rfl (reads_new wr [xor8 x 54] (0, 0)) (by intro z hz; rw [List.mem_singleton.1 hz]; exact xor8_byte _ _) (by rw [List.length_map, List.length_take]; omega)).mono ?_; rintro e wB ⟨rfl, glB, hB0⟩; have hB := Aside0.mk hB0; have hcB2 := hcB.out _ _ _ _ _ hB0; have hC := Aside0.mk (hB0.laid (.cells (bcells [xor8 x 92]) 5 (0, 0))); clear hB0))
        refine ⟨⟨j + 1, glB, hlD, by omega, by rfl, ?_⟩, by simp only [intOf]; omega⟩
        have h := hD.out
        have h54 := e54.out
        have h92 := e92.out
        rw [← h54, ← h92]
        exact h
      · obtain rfl : j = 64 := by omega
        have hPt : P.take 64 = P := List.take_of_length_le (by have := hPl.out; omega)
        rw [hPt] at hJ
        replace hJ := Aside0.mk hJ
        clear hPt
        go_wp2
        go_loopw [11] (RelSu w A2 N2 c2 p0 gl2 P g G H glj hlj ll.length) (fun v _ => (10 - intOf v).toNat)
        case atStart => exact ⟨0, by omega, rfl, hJ.out⟩
        case round =>
          obtain ⟨i, hi, rfl, hI⟩ := hrel
          replace hI := Aside0.mk hI
          by_cases hil : (i : Int) < ll.length
          · by_cases hi10 : (i : Int) < 10
            · obtain ⟨ad, Aj, cj, rfl, hcell, hle, hrj⟩ := row_at (hr1.out) i (by omega)
              have hcell' : wr.cell? (ad.add i) = some (.slice Aj (ll.getD i []).length cj) := (hI.out.below.cell (World.block_lt_of_cell? w _ hcell)).trans hcell
              obtain ⟨n, q, hmn, hn, hk, hnc, hnl, hpe, hp, hpb⟩ := cutB 200 (by decide) hrj hle (getD_mem_nil hb1.out i)
              obtain ⟨L, hL⟩ : ∃ L, (ll.getD i []).length = L := ⟨_, rfl⟩
              rw [hL] at hcell' hmn hle hnl
              replace hk : (n : Int) ≤ 200 := by omega
              replace hp := Aside0.mk hp
              replace hpb := Aside0.mk hpb
              replace hn := Aside0.mk hn
              clear hpe hrj hcell hL
              go_wp2
              refine wp_region_still_lit (by kernel_rfl) (by kernel_rfl) ?_
              repeat still_step
              refine wpStill_nil ?_
              generalize hw6 : ({ wr with drawn := wr.drawn + 1 } : World) = w6
              have hI6 : Aside0 (Owns w w6 (stR A2 N2 c2 p0 gl2 P (P.map fun x => xor8 x 54) (P.map fun x => xor8 x 92) g G H glj hlj)) := Aside0.mk (by rw [← hw6]; exact hI.out.alter _)
              clear hw6
              have hXl : Aside0 ((P.map fun x => xor8 x 54).length = 64) := Aside0.mk (by rw [List.length_map]; exact hPl.out)
              have hYl : Aside0 ((P.map fun x => xor8 x 92).length = 64) := Aside0.mk (by rw [List.length_map]; exact hPl.out)
              have hZq := Aside0.mk (hZ.out q)
              generalize hXe : P.map (fun x => xor8 x 54) = X at *
              generalize hYe : P.map (fun x => xor8 x 92) = Y at *
              replace hXe := Aside0.mk hXe
              replace hYe := Aside0.mk hYe
              go_wp2_with (first
                | (go_at_call 30; refine (own_mac k8.out p0 q hN2b.out (own_reads k8.out 0 rfl) hpb0.out hn.out (hp.out.below k8.out.below) hpb.out (by have := hN2b.out; have := hn0.out; omega) (by omega) _ hZq.out).mono ?_; rintro e y9 ⟨rfl, h⟩; have k9 := Aside0.mk h; clear h)
                | (go_at_call 26; refine (own_hsum k7.out 5 rfl (by rw [List.length_append, hYl.out, digest_len]; decide)).mono ?_; rintro e y8 ⟨rfl, h⟩; have k8 := Aside0.mk h; clear h)
                | (go_at_call 25; refine (own_put k6.out 5 rfl _ _ 20 20 (digest_len _) (box_reads k6.out 6 rfl) (digest_byte _) (by rw [hYl.out]; decide)).mono ?_; rintro e y7 ⟨rfl, g7, h⟩; have k7 := Aside0.mk h; clear h)
                | (refine store24 k5.out 6 rfl rfl _ _ rfl _ rfl rfl (by simp) (digest_len _) ?_; intro y6 h; have k6 := Aside0.mk h; clear h)
                | (refine alloc24 k4.out rfl rfl ?_; intro S y5 h; have k5 := Aside0.mk h; clear h)
                | (go_at_call 26; refine (own_hsum k3.out 4 rfl (by rw [List.length_append, hXl.out, hn.out]; omega)).mono ?_; rintro e y4 ⟨rfl, h⟩; have k4 := Aside0.mk h; clear h)
                | (go_at_call 25; refine (own_put k2.out 4 rfl q Aj n cj hn.out (hp.out.below k2.out.below) hpb.out (by rw [hXl.out]; omega)).mono ?_; rintro e y3 ⟨rfl, g3, h⟩; have k3 := Aside0.mk h; clear h)
                | (go_at_call 27; refine (own_clone k1.out 3 rfl).mono ?_; rintro e y2 ⟨D, gD, rfl, h⟩; have k2 := Aside0.mk h; clear h)
                | (go_at_call 27; refine (own_clone hI6.out 2 rfl).mono ?_; rintro e y1 ⟨C, gC, rfl, h⟩; have k1 := Aside0.mk h; clear h))
              replace hXe := hXe.out
              replace hYe := hYe.out
              subst hXe
              subst hYe
              exact ⟨⟨i + 1, by omega, by rfl, Owns.drop (rs := [_, _, _, _]) (Owns.drop (rs := [_, _, _, _, _]) (Owns.drop (rs := [_, _, _, _, _, _]) k9.out))⟩, by simp only [intOf]; omega⟩
            · go_wp2
              go_ret
              exact ⟨rfl, hI.out.below⟩
          · go_wp2
            go_ret
            exact ⟨rfl, hI.out.below⟩)
end Go.Proofs.Ytijnmoceafcamaa.Sha
