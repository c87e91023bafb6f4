/- ShaPieces: for any pieces the law returns true and changes nothing that was there. Condition: none but that the rows lie in memory. -/
import Derived.Test.YtijnmoceafcamaaShaText
namespace Go.Proofs.Ytijnmoceafcamaa.Sha
set_option linter.unusedVariables false
set_option linter.unusedSimpArgs false
open Go.RowKit
open Go.Proofs.YtijnmoceafcamaaW.PrintWords Go.Proofs.YtijnmoceafcamaaW.PrintMore
attribute [local go_sem] max2_int min2_int max_two min_two
attribute [local go_sem] run_eql_digest run_neq_digest run_eql_digest1 run_eql_digest2 run_eql_digest3 run_neq_digest1 run_neq_digest2
attribute [-go_sem] run_eql_struct run_neq_struct
def RelPi (w : World) (ll : List (List Int)) (G : Nat) (v v5 : Value) (W : World) : Prop := ∃ (j : Nat) (m : List Int) (gl gA : Option Nat) (A : Option Addr) (N c : Nat), (j ≤ 30 ∧ j ≤ ll.length) ∧ v = .int .i64 j ∧ v5 = .slice A N c ∧ m.length = N ∧ N ≤ c ∧ N ≤ 300 * j ∧ (∀ x ∈ m, 0 ≤ x ∧ x ≤ 255) ∧ Owns w W [hashR G m gl, rowR (.slice A N c) m gA]
def RelPk (w : World) (rs : List Res) (N : Nat) (A : Option Addr) (c : Nat) (gl : Option Nat) (v : Value) (W : World) : Prop := ∃ (k : Nat) (l : List Int), k ≤ N ∧ v = .int .i64 k ∧ l.length = N ∧ Owns w W (rs ++ [rowR (.slice A N c) l gl])
set_option maxHeartbeats 1000000 in
set_option maxRecDepth 100000 in
theorem shaPieces_calls (A0 : Option Addr) (c0 : Nat) (ll : List (List Int)) (w : World)
    (hr0 : Kd.C (Kd.slice 22 (Kd.int .u8)) w A0 ll.length ll) (hc0 : ll.length ≤ c0) (hb0 : ∀ r ∈ ll, ∀ x ∈ r, 0 ≤ x ∧ x ≤ 255) :
    Calls Try.prog 4 #[.slice A0 ll.length c0] w fun e w' => e = .returned (.bool true) ∧ Below w.heap.size w w' := by
  replace hr0 := Aside0.mk hr0
  replace hb0 := Aside0.mk hb0
  go_enter Try.func4, Try.ntmps4
  go_wp2_with (first
    | (go_at_call 24; refine (own_new hO1.out).mono ?_; rintro e w2 ⟨G, gl, rfl, h2⟩; have hO2 := Aside0.mk h2; have hO3 := Aside0.mk h2.empty; clear h2)
    | (go_at_call 20; refine (shown_calls w).mono ?_; rintro e w1 ⟨rfl, h1⟩; have hO1 := Aside0.mk ((Owns.start w).stay (Keeps.of_below h1 _)); clear h1))
  go_loopw [6, 5] (RelPi w ll G) (fun v _ _ => (30 - intOf v).toNat)
  case atStart => exact ⟨0, [], gl, _, _, 0, 0, by omega, rfl, rfl, rfl, by omega, by omega, by simp, hO3.out⟩
  case round =>
    obtain ⟨j, m, glj, gA, A, N, c, hj, rfl, rfl, hN, hNc, hNj, hmb, hJ⟩ := hrel
    replace hJ := Aside0.mk hJ
    replace hmb := Aside0.mk hmb
    replace hN := Aside0.mk hN
    by_cases hjl : (j : Int) < ll.length
    · by_cases hj20 : (j : Int) < 30
      · obtain ⟨ad, Aj, cj, rfl, hcell, hle, hrj⟩ := row_at (hr0.out) j (by omega)
        have hcell' : wr.cell? (ad.add j) = some (.slice Aj (ll.getD j []).length cj) := (hJ.out.below.cell (World.block_lt_of_cell? w _ hcell)).trans hcell
        obtain ⟨n, p, hmn, hn, hk, hnc, hnl, hpe, hp, hpb⟩ := cutB 300 (by decide) hrj hle (getD_mem_nil hb0.out j)
        obtain ⟨L, hL⟩ : ∃ L, (ll.getD j []).length = L := ⟨_, rfl⟩
        have hcb := Aside0.mk (World.block_lt_of_cell? w _ hcell)
        have hcw := Aside0.mk hcell
        rw [hL] at hcell' hmn hle hnl
        replace hk : (n : Int) ≤ 300 := by omega
        replace hp := Aside0.mk hp
        replace hpb := Aside0.mk hpb
        replace hn := Aside0.mk hn
        have hL' := Aside0.mk hL
        clear hpe hrj hcell hL
        go_wp2
        go_region_held3 (fun w' => Owns w w' [hashR G m glj, rowR (.slice A N c) m gA] ∧ w'.cell? (ad.add j) = some (.slice Aj L cj))
          (first
            | exact ⟨hJ.out.drew, (hJ.out.drew.below.cell hcb.out).trans (by rw [← hL'.out]; exact hcw.out)⟩
            | exact ⟨hJ.out.drew.laid _, ((hJ.out.drew.laid _).below.cell hcb.out).trans (by rw [← hL'.out]; exact hcw.out)⟩
            | exact ⟨Owns.drop (rs := [_, _]) h1.out, (h1.out.below.cell hcb.out).trans (by rw [← hL'.out]; exact hcw.out)⟩
            | assumption)
          ((refine own_append_step hJ.out.drew.empty 2 rfl rfl _ _ rfl rfl rfl rfl p hn.out (hp.out.below hJ.out.drew.empty.below) (by simp; omega) ?_; intro A1 c1 N1 w1 gl1 hN1 hc1 h10; have h1 := Aside0.mk h10; replace hN1 := Aside0.mk hN1; clear h10))
        all_goals (
          have hmp : Aside0 (∀ x ∈ m ++ p, 0 ≤ x ∧ x ≤ 255) := Aside0.mk (byte2 hmb.out hpb.out)
          have hn1 : N1 = n := by have := hN1.out; have := hn.out; simp at *; omega
          have hN1k : (N1 : Int) ≤ 300 := by omega
          replace hn1 := Aside0.mk hn1
          go_wp2_with (first
            | (go_at_call 25; refine (own_put h2.out 0 rfl p A1 N1 c1 (hn.out.trans hn1.out.symm) (own_reads h2.out 2 rfl) hpb.out (by have := hn1.out; have := hN.out; omega)).mono ?_; rintro e w3 ⟨rfl, gl3, h30⟩; have h3 := Aside0.mk h30; clear h30)
            | (refine own_append h1.out 1 rfl rfl _ _ rfl rfl rfl rfl p (hn.out.trans hn1.out.symm) (own_reads h1.out 2 rfl) (by have := hn1.out; have := hN.out; omega) ?_; intro A2 c2 N2 w2' gl2 hN2 hc2 h20; have h2 := Aside0.mk h20; replace hN2 := Aside0.mk hN2; clear h20))
          go_loopw [8] (RelPk w [hashR G (m ++ p) gl3, rowR (.slice A2 N2 c2) (m ++ p) gl2] N1 A1 c1 gl1) (fun v _ => (N1 - intOf v).toNat)
          case atStart => exact ⟨0, p, by omega, rfl, hn.out.trans hn1.out.symm, h3.out⟩
          case round =>
            obtain ⟨k, l, hk1, rfl, hl, hK⟩ := hrel
            by_cases hkn : (k : Int) < N1
            · obtain ⟨g, o, rfl, hc1', hf1, hset⟩ := own_at hK 2 rfl k (by omega) hl
              go_wp2
              exact ⟨⟨k + 1, l.set k 63, by omega, by rfl, by simpa using hl, hset 63⟩, by simp only [intOf]; omega⟩
            · replace hK := Aside0.mk hK
              have hmpl : Aside0 ((m ++ p).length ≤ 10000) := Aside0.mk (by have := hN.out; have := hn.out; rw [List.length_append]; omega)
              go_wp2_with (first
                | (refine store24 h5.out 3 rfl rfl _ _ rfl _ rfl rfl rfl (digest_len _) ?_; intro w6 h60; have h6 := Aside0.mk h60; clear h60)
                | (refine alloc24 h4.out rfl rfl ?_; intro O w5 h50; have h5 := Aside0.mk h50; clear h50)
                | (go_at_call 26; refine (own_hsum hK.out 0 rfl (by have := hmpl.out; omega)).mono ?_; rintro e w4 ⟨rfl, h40⟩; have h4 := Aside0.mk h40; clear h40))
              refine wp_region_noPanic ?_
              refine wp_region_held_drew (S := fun w' => Owns w w' [hashR G (m ++ p) gl3, rowR (.slice A2 N2 c2) (m ++ p) gl2, rowR (.slice A1 N1 c1) l gl1, boxR O (digest (m ++ p))] ∧ w'.rangeAt O 0 (bytes (digest (m ++ p)))) (by kernel_rfl) ⟨h6.out.drew, own_range h6.out.drew 3 rfl⟩ (fun hHeld => ?_)
              refine wpAnyH_take (i := 0) (oi := ⟨some 55, _, _, _, _, _⟩) (v := .agg (bcells (digest (m ++ p)))) rfl (by kernel_rfl) (by kernel_rfl) (by kernel_rfl) (fun _ _ _ h => h) (yieldsIf_load_mid (by rfl) _ _ rfl O 0 rfl (bytes (digest (m ++ p))) _ (fun _ h => h.2) Try.underlying24 rfl (size24b _)) (by assumption) ?_
              try simp only [Act.put, List.setIfInBounds_toArray, List.set_cons_zero, List.set_cons_succ]
              refine wpAnyH_take (i := 1) (oi := ⟨some 56, _, _, _, _, _⟩) (v := ?_) rfl (by kernel_rfl) (by kernel_rfl) (by kernel_rfl) (fun _ _ _ h => h) (Or.inl ⟨by rfl, ?_⟩) (by assumption) ?_
              rotate_left
              · (intro w hSw; (try dsimp only at hSw); go_simp); (try with_reducible rfl)
              try simp only [Act.put, List.setIfInBounds_toArray, List.set_cons_zero, List.set_cons_succ]
              refine wpAnyH_ready (rs := [2]) (by kernel_rfl) (by simp) ?_
              refine AllReadyH.cons (o := ⟨some 57, _, _, _, _, _⟩) rfl (fun K hK => ?_) AllReadyH.nil
              go_simp
              go_at_call 21
              refine (own_sumrow (b := w) (rs := [hashR G (m ++ p) gl3, rowR (.slice A2 N2 c2) (m ++ p) gl2, rowR (.slice A1 N1 c1) l gl1, boxR O (digest (m ++ p))]) hHeld.1 1 rfl hN2.out hmp.out (by have := hN2.out; have := hmpl.out; omega)).mono ?_
              rintro e w7 ⟨rfl, h7⟩
              refine hK.out _ _ ⟨h7, own_range h7 3 rfl⟩ (fun hHeld => ?_)
              clear hK K
              try simp only [Act.put, List.setIfInBounds_toArray, List.set_cons_zero, List.set_cons_succ]
              refine wpAnyH_take (i := 3) (oi := ⟨some 58, _, _, _, _, _⟩) (v := ?_) rfl (by kernel_rfl) (by kernel_rfl) (by kernel_rfl) (fun _ _ _ h => h) (Or.inl ⟨by rfl, ?_⟩) (by assumption) ?_
              rotate_left
              · (intro w hSw; (try dsimp only at hSw); go_simp); (try with_reducible rfl)
              try simp only [Act.put, List.setIfInBounds_toArray, List.set_cons_zero, List.set_cons_succ]
              refine wpAnyH_take (i := 4) (oi := ⟨some 59, _, _, _, _, _⟩) (v := ?_) rfl (by kernel_rfl) (by kernel_rfl) (by kernel_rfl) (fun _ _ _ h => h) (Or.inl ⟨by rfl, ?_⟩) (by assumption) ?_
              rotate_left
              · (intro w hSw; (try dsimp only at hSw); go_simp); (try with_reducible rfl)
              try simp only [Act.put, List.setIfInBounds_toArray, List.set_cons_zero, List.set_cons_succ]
              refine wpAnyH_take (i := 5) (oi := ⟨some 60, _, _, _, _, _⟩) (v := ?_) rfl (by kernel_rfl) (by kernel_rfl) (by kernel_rfl) (fun _ _ _ h => h) (Or.inl ⟨by rfl, ?_⟩) (by assumption) ?_
              rotate_left
              · (intro w hSw; (try dsimp only at hSw); go_simp); (try with_reducible rfl)
              try simp only [Act.put, List.setIfInBounds_toArray, List.set_cons_zero, List.set_cons_succ]
              refine wpAnyH_take (i := 7) (oi := ⟨some 62, _, _, _, _, _⟩) (v := .agg (bcells (digest (m ++ p)))) rfl (by kernel_rfl) (by kernel_rfl) (by kernel_rfl) (fun _ _ _ h => h) (yieldsIf_load_mid (by rfl) _ _ rfl O 0 rfl (bytes (digest (m ++ p))) _ (fun _ h => h.2) Try.underlying24 rfl (size24b _)) (by assumption) ?_
              try simp only [Act.put, List.setIfInBounds_toArray, List.set_cons_zero, List.set_cons_succ]
              refine wpAnyH_ready (rs := [6]) (by kernel_rfl) (by simp) ?_
              refine AllReadyH.cons (o := ⟨some 61, _, _, _, _, _⟩) rfl (fun K hK => ?_) AllReadyH.nil
              go_simp
              go_at_call 26
              refine (own_hsum (b := w) (rs := [hashR G (m ++ p) gl3, rowR (.slice A2 N2 c2) (m ++ p) gl2, rowR (.slice A1 N1 c1) l gl1, boxR O (digest (m ++ p))]) hHeld.1 0 rfl (by have := hmpl.out; omega)).mono ?_
              rintro e w7 ⟨rfl, h7⟩
              refine hK.out _ _ ⟨h7, own_range h7 3 rfl⟩ (fun hHeld => ?_)
              clear hK K
              try simp only [Act.put, List.setIfInBounds_toArray, List.set_cons_zero, List.set_cons_succ]
              refine wpAnyH_take (i := 8) (oi := ⟨some 63, _, _, _, _, _⟩) (v := ?_) rfl (by kernel_rfl) (by kernel_rfl) (by kernel_rfl) (fun _ _ _ h => h) (Or.inl ⟨by rfl, ?_⟩) (by assumption) ?_
              rotate_left
              · (intro w hSw; (try dsimp only at hSw); go_simp); (try with_reducible rfl)
              try simp only [Act.put, List.setIfInBounds_toArray, List.set_cons_zero, List.set_cons_succ]
              refine wpAnyH_take (i := 9) (oi := ⟨some 64, _, _, _, _, _⟩) (v := ?_) rfl (by kernel_rfl) (by kernel_rfl) (by kernel_rfl) (fun _ _ _ h => h) (Or.inl ⟨by rfl, ?_⟩) (by assumption) ?_
              rotate_left
              · (intro w hSw; (try dsimp only at hSw); go_simp); (try with_reducible rfl)
              try simp only [Act.put, List.setIfInBounds_toArray, List.set_cons_zero, List.set_cons_succ]
              refine wpAnyH_done (by kernel_rfl) ?_ _
              refine NoPanic.normal ?_
              clear hHeld
              go_wp2
              exact ⟨⟨j + 1, m ++ p, gl3, gl2, A2, N2, c2, by omega, by rfl, rfl, hN2.out, hc2, by have := hN2.out; have := hN.out; have := hn.out; rw [List.length_append] at *; omega, hmp.out, Owns.drop (rs := [_, _]) (Owns.drop (rs := [_, _, _]) h7)⟩, by simp only [intOf]; omega⟩)
      · go_wp2_with (first
          | (go_at_call 21; refine (own_sumrow hX.out 1 rfl hN.out hmb.out (by omega)).mono ?_; rintro e wY ⟨rfl, hY0⟩; have hY := Aside0.mk hY0; clear hY0)
          | (go_at_call 26; refine (own_hsum hJ.out 0 rfl (by have := hN.out; omega)).mono ?_; rintro e wX ⟨rfl, hX0⟩; have hX := Aside0.mk hX0; clear hX0))
        go_ret
        exact ⟨rfl, hY.out.below⟩
    · go_wp2_with (first
        | (go_at_call 21; refine (own_sumrow hX.out 1 rfl hN.out hmb.out (by omega)).mono ?_; rintro e wY ⟨rfl, hY0⟩; have hY := Aside0.mk hY0; clear hY0)
        | (go_at_call 26; refine (own_hsum hJ.out 0 rfl (by have := hN.out; omega)).mono ?_; rintro e wX ⟨rfl, hX0⟩; have hX := Aside0.mk hX0; clear hX0))
      go_ret
      exact ⟨rfl, hY.out.below⟩
end Go.Proofs.Ytijnmoceafcamaa.Sha
