/- ShaNothing: for any pieces and any asking the law returns true and changes nothing that was there. Condition: none but that the rows lie in memory. -/
import Derived.Test.YtijnmoceafcamaaShaText
namespace Go.Proofs.Ytijnmoceafcamaa.Sha
set_option linter.unusedVariables false
set_option linter.unusedSimpArgs false
open Go.RowKit
open Go.Proofs.YtijnmoceafcamaaW.PrintWords Go.Proofs.YtijnmoceafcamaaW.PrintMore
attribute [local go_sem] max2_int min2_int max_two min_two
attribute [local go_sem] run_eql_digest run_neq_digest
attribute [-go_sem] run_eql_struct run_neq_struct
def RelNo (w : World) (ll : List (List Int)) (G H : Nat) (v : Value) (W : World) : Prop := ∃ (j : Nat) (m : List Int) (gl hl : Option Nat), (j ≤ 20 ∧ j ≤ ll.length) ∧ v = .int .i64 j ∧ m.length ≤ 200 * j ∧ Owns w W [hashR G m gl, hashR H m hl]
theorem relNo_next {w W : World} {ll : List (List Int)} {G H j n : Nat} {m p : List Int} {gl hl : Option Nat} (hj : (j : Int) < ll.length ∧ (j : Int) < 20) (hm : m.length ≤ 200 * j) (hn : p.length = n) (hk : (n : Int) ≤ 200) (h : Owns w W [hashR G (m ++ p) gl, hashR H (m ++ p) hl]) :
    RelNo w ll G H (.int .i64 ((j : Int) + 1)) W ∧ (20 - intOf (.int .i64 ((j : Int) + 1))).toNat < (20 - intOf (.int .i64 (j : Int))).toNat :=
  ⟨⟨j + 1, m ++ p, gl, hl, by omega, rfl, by rw [List.length_append]; omega, h⟩, by simp only [intOf]; omega⟩
set_option maxHeartbeats 1000000 in
set_option maxRecDepth 100000 in
theorem shaNothing_calls (A0 : Option Addr) (c0 : Nat) (ll : List (List Int)) (a1 : Int) (w : World)
    (hr0 : Kd.C (Kd.slice 22 (Kd.int .u8)) w A0 ll.length ll) (hc0 : ll.length ≤ c0) (hb0 : ∀ r ∈ ll, ∀ x ∈ r, 0 ≤ x ∧ x ≤ 255) (w1 : (Lit.int .i64 a1).wf = true) :
    Calls Try.prog 7 #[.slice A0 ll.length c0, .int .i64 a1] w fun e w' => e = .returned (.bool true) ∧ Below w.heap.size w w' := by
  clear w1
  replace hr0 := Aside0.mk hr0
  replace hb0 := Aside0.mk hb0
  have kc := fun (w : World) (C : Array Value) (n c : Nat) => Lib.run_convert_bytes_const (P := Try.prog) w 22 5 C n c Try.underlying22 Try.underlying5
  go_enter Try.func7, Try.ntmps7
  go_wp2_with (first
    | (go_at_call 24; refine (own_new hO2.out).mono ?_; rintro e w3 ⟨H, hl, rfl, h3⟩; have hO3 := Aside0.mk h3; clear h3)
    | (go_at_call 24; refine (own_new hO1.out).mono ?_; rintro e w2 ⟨G, gl, rfl, h2⟩; have hO2 := Aside0.mk h2; clear h2)
    | (go_at_call 20; refine (shown_calls w).mono ?_; rintro e w1 ⟨rfl, h1⟩; have hO1 := Aside0.mk ((Owns.start w).stay (Keeps.of_below h1 _)); clear h1))
  go_loopw [8] (RelNo w ll G H) (fun v _ => (20 - intOf v).toNat)
  case atStart => exact ⟨0, [], gl, hl, by omega, rfl, by simp, hO3.out⟩
  case round =>
    obtain ⟨j, m, glj, hlj, hj, rfl, hm, hJ⟩ := hrel
    replace hJ := Aside0.mk hJ
    by_cases hjl : (j : Int) < ll.length
    · by_cases hj20 : (j : Int) < 20
      · obtain ⟨ad, Aj, cj, rfl, hcell, hle, hrj⟩ := row_at (hr0.out) j (by omega)
        have hcell' : wr.cell? (ad.add j) = some (.slice Aj (ll.getD j []).length cj) := (hJ.out.below.cell (World.block_lt_of_cell? w _ hcell)).trans hcell
        obtain ⟨n, p, hmn, hn, hk, hnc, hnl, hpe, hp, hpb⟩ := cutB 200 (by decide) hrj hle (getD_mem_nil hb0.out j)
        obtain ⟨s, hs, hs0, hs1⟩ : ∃ s : Int, Go.bits .and .i64 (2 * (j : Int)) 31 = s ∧ 0 ≤ s ∧ s ≤ 31 := ⟨_, rfl, (and_low _ 31 (by decide)).1, (and_low _ 31 (by decide)).2⟩
        obtain ⟨L, hL⟩ : ∃ L, (ll.getD j []).length = L := ⟨_, rfl⟩
        rw [hL] at hcell' hmn hle hnl
        replace hk : (n : Int) ≤ 200 := by omega
        replace hp := Aside0.mk hp
        replace hpb := Aside0.mk hpb
        replace hn := Aside0.mk hn
        replace hm := Aside0.mk hm
        clear hpe hrj hcell hL
        go_wp2
        refine wp_region_still_lit (by kernel_rfl) (by kernel_rfl) ?_
        repeat still_step
        refine wpStill_nil ?_
        generalize hw6 : ({ wr with drawn := wr.drawn + 1 } : World) = w6
        have hJ6 : Aside0 (Owns w w6 [hashR G m glj, hashR H m hlj]) := Aside0.mk (by rw [← hw6]; exact hJ.out.alter _)
        clear hw6
        go_wp2_with (first
          | (go_at_call 26; refine (own_hsum hF.out 2 rfl (by simp only [List.length_append, hn.out]; have := hm.out; simp; omega)).mono ?_; rintro e wE ⟨rfl, hE0⟩; have hG := Aside0.mk hE0; clear hE0)
          | (go_at_call 25; refine (own_put hE1.out 2 rfl [111, 116, 104, 101, 114] _ 5 5 rfl (reads_new wC [111, 116, 104, 101, 114] (5, 6)) (by decide) (by rw [List.length_append, hn.out]; have := hm.out; omega)).mono ?_; rintro e wD ⟨rfl, glD, hD0⟩; have hF := Aside0.mk hD0; clear hD0)
          | (go_at_call 27; refine (own_clone hB.out 0 rfl).mono ?_; rintro e wC ⟨C, glC, rfl, hC0⟩; have hE := Aside0.mk hC0; have hE1 := Aside0.mk (hC0.laid (.cells (bcells [111, 116, 104, 101, 114]) 5 (5, 6))); clear hC0)
          | (go_at_call 26; refine (own_hsum hB.out 0 rfl (by rw [List.length_append, hn.out]; have := hm.out; omega)).mono ?_; rintro e wC ⟨rfl, hC0⟩; have hD := Aside0.mk hC0; clear hC0)
          | (go_at_call 25; refine (own_put hB.out 0 rfl [] none 0 0 rfl (fun h => absurd h (by decide)) (by simp) (by rw [List.length_append, hn.out]; have := hm.out; omega)).mono ?_; rintro e wC ⟨rfl, glC, hC0⟩; have hC := Aside0.mk hC0; clear hC0)
          | (go_at_call 25; refine (own_put hA.out 1 rfl p Aj n cj hn.out (hp.out.below hA.out.below) hpb.out (by have := hm.out; omega)).mono ?_; rintro e wB ⟨rfl, glB, hB0⟩; have hB := Aside0.mk hB0; clear hB0)
          | (go_at_call 25; refine (own_put hJ6.out 0 rfl p Aj n cj hn.out (hp.out.below hJ6.out.below) hpb.out (by have := hm.out; omega)).mono ?_; rintro e wA ⟨rfl, glA, hA0⟩; have hA := Aside0.mk hA0; clear hA0))
        all_goals first
          | exact relNo_next ⟨hjl, hj20⟩ hm.out hn.out hk (Owns.drop (rs := [hashR G (m ++ p) _, hashR H (m ++ p) _]) hG.out)
          | exact relNo_next ⟨hjl, hj20⟩ hm.out hn.out hk (by have h := hC.out; rw [List.append_nil] at h; exact h)
          | exact relNo_next ⟨hjl, hj20⟩ hm.out hn.out hk hD.out
          | exact relNo_next ⟨hjl, hj20⟩ hm.out hn.out hk hB.out
      · go_wp2_with (first
          | (go_at_call 26; refine (own_hsum hX.out 1 rfl (by omega)).mono ?_; rintro e wY ⟨rfl, hY0⟩; have hY := Aside0.mk hY0; clear hY0)
          | (go_at_call 26; refine (own_hsum hJ.out 0 rfl (by omega)).mono ?_; rintro e wX ⟨rfl, hX0⟩; have hX := Aside0.mk hX0; clear hX0))
        go_ret
        exact ⟨rfl, hY.out.below⟩
    · go_wp2_with (first
        | (go_at_call 26; refine (own_hsum hX.out 1 rfl (by omega)).mono ?_; rintro e wY ⟨rfl, hY0⟩; have hY := Aside0.mk hY0; clear hY0)
        | (go_at_call 26; refine (own_hsum hJ.out 0 rfl (by omega)).mono ?_; rintro e wX ⟨rfl, hX0⟩; have hX := Aside0.mk hX0; clear hX0))
      go_ret
      exact ⟨rfl, hY.out.below⟩
end Go.Proofs.Ytijnmoceafcamaa.Sha
