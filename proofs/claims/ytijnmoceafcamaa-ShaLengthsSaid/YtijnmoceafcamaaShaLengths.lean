/- ShaLengths: for any length and byte the law returns true and changes nothing that was there. No condition. -/
import Derived.Test.YtijnmoceafcamaaRefSum
import Derived.Test.YtijnmoceafcamaaMacRow
namespace Go.Proofs.Ytijnmoceafcamaa.Sha
set_option linter.unusedVariables false
set_option linter.unusedSimpArgs false
open Go.RowKit
open Go.Proofs.YtijnmoceafcamaaW.PrintWords Go.Proofs.YtijnmoceafcamaaW.PrintMore
theorem conv_row {w : World} {A : Option Addr} {p : List Int} {n c : Nat} (h : ReadsB w A p) (hn : p.length = n) (hb : n ≤ 1000000000) : (convert 22 9 (.slice A n c)).run Try.prog w = .ok (.string (strOfNums p)) w :=
  string_of_reads Try.underlying22 Try.underlying5 Try.underlying9 ⟨hn, by omega, fun h0 => by
    obtain ⟨ad, e, hr⟩ := h (by omega)
    exact ⟨ad, e, fun j hj => hr j (by omega)⟩⟩
theorem set_bytes {l : List Int} (h : ∀ x ∈ l, 0 ≤ x ∧ x ≤ 255) (k : Nat) {y : Int} (hy : 0 ≤ y ∧ y ≤ 255) : ∀ x ∈ l.set k y, 0 ≤ x ∧ x ≤ 255 := by
  intro x hx
  rcases List.mem_or_eq_of_mem_set hx with h1 | h1
  · exact h x h1
  · rw [h1]; exact hy
theorem pad_mod (m : List Int) : Int.tmod ((strOfNums (m ++ pad8 m.length)).size : Int) 64 = 0 := by
  have hl : (pad8 m.length).length = 9 + zc m.length := by simp [pad8, be8]; omega
  rw [strOfNums_size, List.length_append, hl, Int.tmod_eq_emod_of_nonneg (by omega)]
  unfold zc
  omega
def RelLe (w : World) (g n : Nat) (v : Value) (W : World) : Prop := ∃ (j : Nat) (l : List Int), j ≤ n ∧ v = .int .i64 j ∧ l.length = n ∧ (∀ x ∈ l, 0 ≤ x ∧ x ≤ 255) ∧ Owns w W [rowR (.slice (some ⟨g, 0, none⟩) n n) l (some g)]
set_option maxHeartbeats 2000000 in
set_option maxRecDepth 100000 in
theorem shaLengths_calls (a0 a1 : Int) (w : World) (w0 : (Lit.int .i64 a0).wf = true) (w1 : (Lit.int .u8 a1).wf = true) :
    Calls Try.prog 6 #[.int .i64 a0, .int .u8 a1] w fun e w' => e = .returned (.bool true) ∧ Below w.heap.size w w' := by
  have hu : 0 ≤ a1 ∧ a1 ≤ 255 := byte_of_wf (l := [a1]) (by intro x hx; rw [List.mem_singleton.1 hx]; exact w1) a1 (by simp)
  clear w0 w1
  obtain ⟨q, hq, hq0, hq1⟩ : ∃ q : Int, Int.tmod (Go.bits .and .i64 a0 65535) 301 = q ∧ 0 ≤ q ∧ q ≤ 300 := and_low_mod a0 65535 301 (by decide) (by decide)
  obtain ⟨n, rfl⟩ := Int.eq_ofNat_of_zero_le hq0
  go_enter Try.func6, Try.ntmps6
  go_wp2_with (first
    | (refine own_make h1.out rfl _ _ rfl n rfl rfl rfl (by omega) ?_; intro g w2 h20; have h2 : Aside0 (Owns w w2 [rowR (.slice (some ⟨g, 0, none⟩) n n) (List.replicate n 0) (some g)]) := Aside0.mk h20; clear h20)
    | (go_at_call 20; refine (shown_calls w).mono ?_; rintro e w1 ⟨rfl, h10⟩; have h1 := Aside0.mk ((Owns.start w).stay (Keeps.of_below h10 _)); clear h10))
  go_loopw [7] (RelLe w g n) (fun v _ => (n - intOf v).toNat)
  case atStart => exact ⟨0, List.replicate n 0, by omega, rfl, List.length_replicate, fun x hx => by have := List.eq_of_mem_replicate hx; omega, h2.out⟩
  case round =>
    obtain ⟨j, l, hj, rfl, hl, hlb, hJ⟩ := hrel
    by_cases hjn : (j : Int) < n
    · obtain ⟨g', o, e, hc1, hf1, hset⟩ := own_at hJ 0 rfl j (by omega) hl
      injection e with e
      injection e with e1 e2
      subst e1
      subst e2
      rw [Nat.zero_add] at hc1 hf1
      have hnx := Aside0.mk (hset a1)
      have hlb2 := Aside0.mk (set_bytes hlb j hu)
      have hl2 := Aside0.mk hl
      generalize l.getD j 0 = xj at *
      clear hset hJ hlb
      go_wp2
      refine ⟨⟨j + 1, l.set j a1, by omega, by rfl, by rw [List.length_set]; exact hl2.out, hlb2.out, ?_⟩, by simp only [intOf]; omega⟩
      have h := hnx.out
      rw [Nat.zero_add] at h
      exact h
    · obtain ⟨k, hk⟩ := sum_ref l (by omega) hlb
      have hpr := pad_ref 0 l (by omega)
      have hpm := pad_mod l
      replace hk := Aside0.mk hk
      generalize strOfNums (l ++ pad8 l.length) = P at *
      replace hpr := Aside0.mk hpr
      replace hJ := Aside0.mk hJ
      replace hlb := Aside0.mk hlb
      replace hl := Aside0.mk hl
      go_wp2
      go_region_held3 (fun w' => (convert 22 9 (.slice (some ⟨g, 0, none⟩) n n)).run Try.prog w' = .ok (.string (strOfNums l)) w' ∧ Owns w w' [rowR (.slice (some ⟨g, 0, none⟩) n n) l (some g)])
        (first
          | exact ⟨conv_row (own_reads hJ.out.drew 0 rfl) hl.out (by omega), hJ.out.drew⟩
          | exact ⟨conv_row (own_reads m4.out 0 rfl) hl.out (by omega), m4.out⟩
          | exact ⟨conv_row (own_reads m3.out 0 rfl) hl.out (by omega), m3.out⟩
          | exact ⟨conv_row (own_reads m2.out 0 rfl) hl.out (by omega), m2.out⟩
          | exact ⟨conv_row (own_reads m1.out 0 rfl) hl.out (by omega), m1.out⟩
          | assumption)
        (first
          | (go_at_call 28; have hq := m3.out; refine (PShaLengths.sluicewayref02_Padded.calls _ (strOfNums l) _ _ hpr.out).mono ?_; rintro e x4 ⟨rfl, hb⟩; have m4 := Aside0.mk (hq.stay (Keeps.of_below hb _)); clear hq hb)
          | (go_at_call 23; have hq := m2.out; refine (PShaLengths.sluicewayref02_Sum.calls k (strOfNums l) _ _ hk.out).mono ?_; rintro e x3 ⟨rfl, hb⟩; have m3 := Aside0.mk (hq.stay (Keeps.of_below hb _)); clear hq hb)
          | (go_at_call 22; have hq := m1.out; refine (text_calls (digest l) (digest_len _) _).mono ?_; rintro e x2 ⟨rfl, hb⟩; have m2 := Aside0.mk (hq.stay (Keeps.of_below hb _)); clear hq hb)
          | (go_at_call 21; have hq := hJ.out.drew; refine (own_sumrow hq 0 rfl hl.out hlb.out (by omega)).mono ?_; rintro e x1 ⟨rfl, h⟩; have m1 := Aside0.mk h; clear h hq))
      go_wp2
      go_ret
      exact ⟨rfl, m4.out.below⟩
end Go.Proofs.Ytijnmoceafcamaa.Sha
