/- der.Of as a function under guards. -/
import Derived.Test.YtpphoifjhhidfaaMain
namespace Go.Proofs.Ytpphoifjhhidfaa.Der
set_option linter.unusedVariables false
set_option linter.unusedSimpArgs false
open Go.RowKit
open Go.Proofs.YtpphoifjhhidfaaW.PrintWords
open Go.Proofs.YtpphoifjhhidfaaW.PrintLast
open Go.Proofs.YtpphoifjhhidfaaW.PrintMore
theorem results_of {fn : Func} {p u : Tmp} (h : fn.results = #[.cell p 24, .tmp u]) (tmps : Array Value) (w : World) (g : Nat) (t : TypeId) (cs : Array Value) (fr : Nat × Nat)
    (hp : tmps.getD p undef = .pointer (some ⟨g, 0, none⟩)) (hg : w.heap[g]? = some (.cells cs t fr)) (hi : (Try.prog.info? 24).map (·.size) = some cs.size) :
    (results fn tmps).run Try.prog w = .ok (.tuple #[.agg cs, tmps.getD u undef]) w := by
  have hp' : tmps[p]?.getD undef = .pointer (some ⟨g, 0, none⟩) := by simpa using hp
  simp [results, h, hp', asAddr, run_loadVar_row w g t 24 cs fr _ hg Try.underlying24 rfl hi]
theorem leafO {W : World} {g : Nat} {a0 a1 a2 a3 a4 : Value} (h : W.heap[g]? = some (.cells #[a0, a1, a2, a3, a4] 24 (0, 0))) (u0 u1 u2 u3 u4 : Value) (tmps : Array Value) (hp : tmps.getD 2 undef = .pointer (some ⟨g, 0, none⟩)) {R : Ending → World → Prop} (hR : R (.returned (.tuple #[.agg #[u0, u1, u2, u3, u4], tmps.getD 3 undef])) (sets5 W g u0 u1 u2 u3 u4)) :
    bodyPost Try.prog Try.f22 R Exit.ret { tmps := tmps, defers := [] } (sets5 W g u0 u1 u2 u3 u4) :=
  bodyPost_ret (results_of rfl _ _ g 24 _ (0, 0) hp (sets5_blk h u0 u1 u2 u3 u4) (by kernel_rfl)) rfl hR
def OfR (w : World) (r1 r2 : Int) (r3 : ByteArray) (r4 : Int) (r5 : List S24) (r6 : Int) (e : Ending) (w' : World) : Prop := ∃ v4_ : Value, e = .returned (.tuple #[.agg #[.int .i64 r1, .int .i64 r2, .string r3, .int .i64 r4, v4_], .int .i64 r6]) ∧ Kd.R k24 24 w' w.heap.size (fun _ => True) v4_ r5 ∧ Below w.heap.size w w'
set_option maxHeartbeats 4000000 in
set_option maxRecDepth 100000 in
theorem of_large (A : Option Addr) (c : Nat) (l : List Int) (w : World) (hl : 65536 < l.length) : Calls Try.prog 22 #[.slice A l.length c] w (OfR w 0 0 e0 0 [] 12) := by
  have hu24 := Try.underlying24
  have hl2 : (65536 : Int) < (l.length : Int) := by omega
  have BK := Aside0.mk (blk_new w (.cells #[.int .i64 0, .int .i64 0, .string e0, .int .i64 0, .slice none 0 0] 24))
  go_enter Try.func22, Try.ntmps22
  go_wp2
  refine bodyPost_ret (results_of rfl _ _ w.heap.size 24 _ (0, 0) rfl BK.out (by kernel_rfl)) rfl ?_
  exact ⟨_, rfl, Kd.R_nil _ _ _ _ _, below_alloc (Below.refl _ _) _⟩
set_option maxHeartbeats 4000000 in
set_option maxRecDepth 100000 in
theorem of_form (A : Option Addr) (c : Nat) (l : List Int) (r : Option (S24 × List Int)) (w : World) (hl : l.length ≤ 65536) (hk : Kd.C (Kd.int .u8) w A l.length l) (hc : l.length ≤ c) (hb : ∀ x ∈ l, 0 ≤ x ∧ x ≤ 255) (hr : readO 20 l = some r) (hbad : ∀ t rest, r = some (t, rest) → 0 < rest.length) : Calls Try.prog 22 #[.slice A l.length c] w (OfR w 0 0 e0 0 [] 2) := by
  have hu24 := Try.underlying24
  have hl2 : ¬ ((65536 : Int) < (l.length : Int)) := by omega
  have h31 := Aside0.mk (read_calls 20 (by omega) l hb (by omega) r hr A c w)
  replace hk := Aside0.mk hk
  cases r with
  | none =>
    go_enter Try.func22, Try.ntmps22
    go_wp2_with (go_at_call 31; refine Calls.mono (h31.out _ hk.out hc (below_alloc (Below.refl _ _) _)) ?_; rintro e w1 ⟨⟨a1, b1, s1, g1, A1, n1, c1, rfl⟩, hb2⟩; have BK0 := Aside0.mk (blk_below (blk_new w _) hb2); have HB := Aside0.mk (below_step (below_alloc (Below.refl _ _) _) hb2); clear hb2; have BK := Aside0.mk (blk_alloc BK0.out (.cells #[.int .i64 a1, .int .i64 b1, .string s1, .int .i64 g1, .slice none 0 0] 24)); have z0 := fun o => (blk_cell (blk_alloc BK0.out o) 0).trans rfl; have z1 := fun o => (blk_cell (blk_alloc BK0.out o) 1).trans rfl; have z2 := fun o => (blk_cell (blk_alloc BK0.out o) 2).trans rfl; have z3 := fun o => (blk_cell (blk_alloc BK0.out o) 3).trans rfl; have z4 := fun o => (blk_cell (blk_alloc BK0.out o) 4).trans rfl; have y0 := fun o => blk_frozen (blk_alloc BK0.out o) 0; have y1 := fun o => blk_frozen (blk_alloc BK0.out o) 1; have y2 := fun o => blk_frozen (blk_alloc BK0.out o) 2; have y3 := fun o => blk_frozen (blk_alloc BK0.out o) 3; have y4 := fun o => blk_frozen (blk_alloc BK0.out o) 4)
    refine leafO BK.out _ _ _ _ _ _ rfl ?_
    exact ⟨_, rfl, Kd.R_nil _ _ _ _ _, sets5_below (below_alloc HB.out _) (Nat.le_refl _) _ _ _ _ _⟩
  | some p =>
    obtain ⟨t, rest⟩ := p
    have h3 : (0 : Int) < (rest.length : Int) := by have := hbad t rest rfl; omega
    clear hbad
    go_enter Try.func22, Try.ntmps22
    go_wp2_with (go_at_call 31; refine Calls.mono (h31.out _ hk.out hc (below_alloc (Below.refl _ _) _)) ?_; rintro e w1 ⟨⟨⟨v, A1, c1, rfl, hv, hc1, hk1⟩, hrb, hrl⟩, hb2⟩; obtain ⟨A4, c4, e4⟩ := Kd.R_slice hv; subst e4; have BK0 := Aside0.mk (blk_below (blk_new w _) hb2); have HB := Aside0.mk (below_step (below_alloc (Below.refl _ _) _) hb2); clear hb2 hv; have BK := Aside0.mk (blk_alloc BK0.out (.cells #[.int .i64 t.f0, .int .i64 t.f1, .string t.f2, .int .i64 t.f3, .slice A4 t.f4.length c4] 24)); have z0 := fun o => (blk_cell (blk_alloc BK0.out o) 0).trans rfl; have z1 := fun o => (blk_cell (blk_alloc BK0.out o) 1).trans rfl; have z2 := fun o => (blk_cell (blk_alloc BK0.out o) 2).trans rfl; have z3 := fun o => (blk_cell (blk_alloc BK0.out o) 3).trans rfl; have z4 := fun o => (blk_cell (blk_alloc BK0.out o) 4).trans rfl; have y0 := fun o => blk_frozen (blk_alloc BK0.out o) 0; have y1 := fun o => blk_frozen (blk_alloc BK0.out o) 1; have y2 := fun o => blk_frozen (blk_alloc BK0.out o) 2; have y3 := fun o => blk_frozen (blk_alloc BK0.out o) 3; have y4 := fun o => blk_frozen (blk_alloc BK0.out o) 4)
    refine leafO BK.out _ _ _ _ _ _ rfl ?_
    exact ⟨_, rfl, Kd.R_nil _ _ _ _ _, sets5_below (below_alloc HB.out _) (Nat.le_refl _) _ _ _ _ _⟩
set_option maxHeartbeats 4000000 in
set_option maxRecDepth 100000 in
theorem of_good (A : Option Addr) (c : Nat) (l : List Int) (t : S24) (rest : List Int) (w : World) (hl : l.length ≤ 65536) (hk : Kd.C (Kd.int .u8) w A l.length l) (hc : l.length ≤ c) (hb : ∀ x ∈ l, 0 ≤ x ∧ x ≤ 255) (hr : readO 20 l = some (some (t, rest))) (h0 : rest.length = 0) : Calls Try.prog 22 #[.slice A l.length c] w (OfR w t.f0 t.f1 t.f2 t.f3 t.f4 0) := by
  have hu24 := Try.underlying24
  have hl2 : ¬ ((65536 : Int) < (l.length : Int)) := by omega
  have h31 := Aside0.mk (read_calls 20 (by omega) l hb (by omega) _ hr A c w)
  replace hk := Aside0.mk hk
  have h3 : ¬ ((0 : Int) < (rest.length : Int)) := by omega
  go_enter Try.func22, Try.ntmps22
  go_wp2_with (go_at_call 31; refine Calls.mono (h31.out _ hk.out hc (below_alloc (Below.refl _ _) _)) ?_; rintro e w1 ⟨⟨⟨v, A1, c1, rfl, hv, hc1, hk1⟩, hrb, hrl⟩, hb2⟩; obtain ⟨A4, c4, e4⟩ := Kd.R_slice hv; subst e4; have BK0 := Aside0.mk (blk_below (blk_new w _) hb2); have HB := Aside0.mk (below_step (below_alloc (Below.refl _ _) _) hb2); have hg := Aside0.mk (blk_lt (blk_new w (.cells #[.int .i64 0, .int .i64 0, .string e0, .int .i64 0, .slice none 0 0] 24))); have hv := Aside0.mk hv; clear hb2; have BK := Aside0.mk (blk_alloc BK0.out (.cells #[.int .i64 t.f0, .int .i64 t.f1, .string t.f2, .int .i64 t.f3, .slice A4 t.f4.length c4] 24)); have z0 := fun o => (blk_cell (blk_alloc BK0.out o) 0).trans rfl; have z1 := fun o => (blk_cell (blk_alloc BK0.out o) 1).trans rfl; have z2 := fun o => (blk_cell (blk_alloc BK0.out o) 2).trans rfl; have z3 := fun o => (blk_cell (blk_alloc BK0.out o) 3).trans rfl; have z4 := fun o => (blk_cell (blk_alloc BK0.out o) 4).trans rfl; have y0 := fun o => blk_frozen (blk_alloc BK0.out o) 0; have y1 := fun o => blk_frozen (blk_alloc BK0.out o) 1; have y2 := fun o => blk_frozen (blk_alloc BK0.out o) 2; have y3 := fun o => blk_frozen (blk_alloc BK0.out o) 3; have y4 := fun o => blk_frozen (blk_alloc BK0.out o) 4)
  refine leafO BK.out _ _ _ _ _ _ rfl ?_
  exact ⟨_, rfl, R_sets5 (w := w) (Kd.R_alloc hv.out _) hg.out (by rw [World.size_alloc]; omega), sets5_below (below_alloc HB.out _) (Nat.le_refl _) _ _ _ _ _⟩
theorem of_of_f (A : Option Addr) (c : Nat) (l : List Int) (r1 r2 : Int) (r3 : ByteArray) (r4 : Int) (r5 : List S24) (r6 : Int) (w : World) (hk : Kd.C (Kd.int .u8) w A l.length l) (hc : l.length ≤ c) (h : ofF l = some (r1, r2, r3, r4, r5, r6)) : Calls Try.prog 22 #[.slice A l.length c] w (OfR w r1 r2 r3 r4 r5 r6) := by
  unfold ofF at h
  split at h
  · rename_i hb
    split at h
    · rename_i hl
      simp only [Option.some.injEq, Prod.mk.injEq] at h
      obtain ⟨rfl, rfl, rfl, rfl, rfl, rfl⟩ := h
      exact of_large A c l w hl
    · rename_i hl
      obtain ⟨r, hr, h⟩ := Option.bind_eq_some_iff.mp h
      cases r with
      | none =>
        simp only [Option.some.injEq, Prod.mk.injEq] at h
        obtain ⟨rfl, rfl, rfl, rfl, rfl, rfl⟩ := h
        exact of_form A c l none w (by omega) hk hc hb.1 hr (fun _ _ h => by cases h)
      | some p =>
        obtain ⟨t, rest⟩ := p
        dsimp only at h
        split at h
        · rename_i h0
          simp only [Option.some.injEq, Prod.mk.injEq] at h
          obtain ⟨rfl, rfl, rfl, rfl, rfl, rfl⟩ := h
          exact of_good A c l t rest w (by omega) hk hc hb.1 hr h0
        · rename_i h0
          simp only [Option.some.injEq, Prod.mk.injEq] at h
          obtain ⟨rfl, rfl, rfl, rfl, rfl, rfl⟩ := h
          exact of_form A c l _ w (by omega) hk hc hb.1 hr (fun t' rest' h => by cases h; omega)
  · cases h
end Go.Proofs.Ytpphoifjhhidfaa.Der
