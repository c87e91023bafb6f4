/- ShaSums: for any bytes the law returns true and changes nothing that was there. Condition: none but that the row lies in memory. -/
import Derived.Test.YtijnmoceafcamaaRefSum
namespace Go.Proofs.Ytijnmoceafcamaa.Sha
set_option linter.unusedVariables false
set_option linter.unusedSimpArgs false
open Go.RowKit
open Go.Proofs.YtijnmoceafcamaaW.PrintWords Go.Proofs.YtijnmoceafcamaaW.PrintMore
attribute [local go_sem] max2_int min2_int max_two min_two
theorem conv_reads {w : World} {A : Option Addr} {p : List Int} {n c : Nat} (h : ReadsB w A p) (hn : p.length = n) (hb : n ≤ 1000000000) : (convert 22 9 (.slice A n c)).run Try.prog w = .ok (.string (strOfNums p)) w :=
  string_of_reads Try.underlying22 Try.underlying5 Try.underlying9 ⟨hn, by omega, fun h0 => by
    obtain ⟨ad, e, hr⟩ := h (by omega)
    exact ⟨ad, e, fun j hj => hr j (by omega)⟩⟩
set_option maxHeartbeats 2000000 in
set_option maxRecDepth 100000 in
theorem shaSums_calls (A0 : Option Addr) (c0 : Nat) (l0 : List Int) (w : World) (hr0 : ReadsB w A0 l0) (hc0 : l0.length ≤ c0) (hb0 : ∀ x ∈ l0, 0 ≤ x ∧ x ≤ 255) :
    Calls Try.prog 3 #[.slice A0 l0.length c0] w fun e w' => e = .returned (.bool true) ∧ Below w.heap.size w w' := by
  obtain ⟨n0, p0, hm0, hn0, hk0, hnc0, hnl0, hpe0, hp0, hpb0⟩ := cutB 2000 (by decide) hr0 hc0 hb0
  obtain ⟨k, hk⟩ := sum_ref p0 (by omega) hpb0
  replace hk := Aside0.mk hk
  replace hp0 := Aside0.mk hp0
  replace hpb0 := Aside0.mk hpb0
  replace hn0 := Aside0.mk hn0
  clear hr0 hb0 hpe0
  replace hk0 : (n0 : Int) ≤ 2000 := by omega
  go_enter Try.func3, Try.ntmps3
  go_wp2_with (first
    | (refine store24 h4.out 1 rfl rfl _ _ rfl _ rfl rfl (by simp) (digest_len _) ?_; intro x5 h; have h5 : Aside0 (Owns w x5 [rowR (.slice Ax Nx cx) p0 gx, boxR S (digest p0)]) := Aside0.mk h; clear h)
    | (refine alloc24 h3.out rfl rfl ?_; intro S x4 h; have h4 := Aside0.mk h; clear h)
    | (go_at_call 21; refine (own_sumrow h2.out 0 rfl hNx.out hpb0.out (by have := hNx.out; have := hn0.out; omega)).mono ?_; rintro e x3 ⟨rfl, h⟩; have h3 := Aside0.mk h; clear h)
    | (refine own_append he.out 0 rfl rfl _ _ rfl rfl rfl rfl p0 hn0.out (hp0.out.below he.out.below) (by simp; omega) ?_; intro Ax cx Nx x2 gx hNx hcx h; have h2 : Aside0 (Owns w x2 [rowR (.slice Ax Nx cx) p0 gx]) := Aside0.mk h; replace hNx : Aside0 (p0.length = Nx) := Aside0.mk hNx; clear h)
    | (go_at_call 20; refine (shown_calls w).mono ?_; rintro e w1 ⟨rfl, h10⟩; have he := Aside0.mk ((Owns.start w).stay (Keeps.of_below h10 _)).empty; clear h10))
  have hS : Aside0 (∀ W, Owns w W [rowR (.slice Ax Nx cx) p0 gx, boxR S (digest p0)] → W.rangeAt S 0 (bytes (digest p0)) ∧ (convert 22 9 (.slice A0 n0 c0)).run Try.prog W = .ok (.string (strOfNums p0)) W ∧ (convert 22 9 (.slice Ax Nx cx)).run Try.prog W = .ok (.string (strOfNums p0)) W ∧ Owns w W [rowR (.slice Ax Nx cx) p0 gx, boxR S (digest p0)]) := Aside0.mk (fun W h => ⟨own_range h 1 rfl, conv_reads (hp0.out.below h.below) hn0.out (by omega), conv_reads (own_reads h 0 rfl) hNx.out (by have := hNx.out; have := hn0.out; omega), h⟩)
  have hu24 := Try.underlying24
  have hs24 := size24b p0
  go_region_held3 (fun w' => w'.rangeAt S 0 (bytes (digest p0)) ∧ (convert 22 9 (.slice A0 n0 c0)).run Try.prog w' = .ok (.string (strOfNums p0)) w' ∧ (convert 22 9 (.slice Ax Nx cx)).run Try.prog w' = .ok (.string (strOfNums p0)) w' ∧ Owns w w' [rowR (.slice Ax Nx cx) p0 gx, boxR S (digest p0)])
    (first
      | exact hS.out _ h5.out.drew
      | exact hS.out _ m2.out
      | exact hS.out _ m1.out
      | assumption)
    (first
      | (go_at_call 23; have hq := m1.out; refine (PShaLengths.sluicewayref02_Sum.calls k (strOfNums p0) _ _ hk.out).mono ?_; rintro e x2 ⟨rfl, hb⟩; have m2 := Aside0.mk (hq.stay (Keeps.of_below hb _)); clear hq hb)
      | (go_at_call 22; have hq := h5.out.drew; refine (text_calls (digest p0) (digest_len _) _).mono ?_; rintro e x1 ⟨rfl, hb⟩; have m1 := Aside0.mk (hq.stay (Keeps.of_below hb _)); clear hq hb))
  go_wp2
  go_ret
  exact ⟨rfl, m2.out.below⟩
end Go.Proofs.Ytijnmoceafcamaa.Sha
