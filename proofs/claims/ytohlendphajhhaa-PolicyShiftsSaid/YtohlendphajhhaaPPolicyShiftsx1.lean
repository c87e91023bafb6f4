-- PRINTED BY print.sh 35421559b90ae4d0a3588c463048766b98c2df88dd9212a6774a882060cdf62d: not written by this session
import Derived.Test.YtohlendphajhhaaPPolicyShiftsx0
namespace Go.Proofs.Ytohlendphajhhaa.PPolicyShifts
open Go.RowKit Go.Proofs.YtohlendphajhhaaW.PrintWords Go.Proofs.YtohlendphajhhaaW.PrintLast Go.Proofs.YtohlendphajhhaaW.PrintMore
attribute [local go_sem] max2_int min2_int max_two min_two max_three min_three max_four min_four   -- for this text's walks alone
set_option linter.unusedVariables false
set_option linter.unusedSimpArgs false

/-! ### policy_Locked: function 13 -/
def policy_Locked.f (a0 : Int) (a1 : Int) : Option (Bool) := some (decide (a0 ≥ (mx a1 1)))
set_option maxHeartbeats 8000000 in
set_option maxRecDepth 100000 in
theorem policy_Locked.calls (a0 : Int) (a1 : Int) (r : Bool) (w : World) (h : policy_Locked.f a0 a1 = some r) :
    Calls Try.prog 13 #[.int .i64 a0, .int .i64 a1] w fun e w' => e = .returned (.bool r) ∧ Below w.heap.size w w' := by
  have HB := Aside0.mk (Below.refl w.heap.size w)
  have H : (some (decide (a0 ≥ (mx a1 1)))) = some r := h
  clear h
  obtain ⟨ji3, hji3⟩ : ∃ j_ : Int, (mx a1 1) = j_ := ⟨_, rfl⟩
  replace H : (some (decide (a0 ≥ (ji3)))) = some r := by first | (rw [hji3] at H; exact H) | (simp only [hji3] at H ⊢; exact H)
  (try (have hji3l : 1 ≤ ji3 := by (rw [← hji3]; unfold mx; (repeat' split) <;> omega)))
  (try (have hji3m : 0 ≤ ji3 := by omega))
  have hji3_ : (if a1 < 1 then 1 else a1) = ji3 := hji3
  obtain rfl := Option.some.inj H
  go_enter Try.func13, Try.ntmps13
  go_wp2
  go_ret
  exact ⟨by first | rfl | (simp [errW_none, errW_some] <;> rfl) | (simp only [← hji3]; first | rfl | (simp [errW_none, errW_some] <;> rfl)) | (simp [*, errW_none, errW_some] <;> rfl), by repeat (first | (with_reducible first | exact HB.out | apply below_alloc | apply pw_below_drewN | apply below_drew1) | exact HB.out)⟩

/-! ### policy_Fail: function 14 -/
def policy_Fail.f (a0 : Int) (a1 : Int) : Option (Int) := if (mx a0 0) ≥ (mx a1 1) then (some (mx a1 1)) else (some (wrap64 ((mx a0 0) + 1)))
set_option maxHeartbeats 8000000 in
set_option maxRecDepth 100000 in
theorem policy_Fail.calls (a0 : Int) (a1 : Int) (r : Int) (w : World) (h : policy_Fail.f a0 a1 = some r) :
    Calls Try.prog 14 #[.int .i64 a0, .int .i64 a1] w fun e w' => e = .returned (.int .i64 r) ∧ Below w.heap.size w w' := by
  have HB := Aside0.mk (Below.refl w.heap.size w)
  have H : (if (mx a0 0) ≥ (mx a1 1) then (some (mx a1 1)) else (some (wrap64 ((mx a0 0) + 1)))) = some r := h
  clear h
  obtain ⟨ji3, hji3⟩ : ∃ j_ : Int, (mx a0 0) = j_ := ⟨_, rfl⟩
  replace H : (if (ji3) ≥ (mx a1 1) then (some (mx a1 1)) else (some (wrap64 ((ji3) + 1)))) = some r := by first | (rw [hji3] at H; exact H) | (simp only [hji3] at H ⊢; exact H)
  (try (have hji3l : 0 ≤ ji3 := by (rw [← hji3]; unfold mx; (repeat' split) <;> omega)))
  (try (have hji3m : 0 ≤ ji3 := by omega))
  have hji3_ : (if a0 < 0 then 0 else a0) = ji3 := hji3
  obtain ⟨ji4, hji4⟩ : ∃ j_ : Int, (mx a1 1) = j_ := ⟨_, rfl⟩
  replace H : (if (ji3) ≥ (ji4) then (some ji4) else (some (wrap64 ((ji3) + 1)))) = some r := by first | (rw [hji4] at H; exact H) | (simp only [hji4] at H ⊢; exact H)
  (try (have hji4l : 1 ≤ ji4 := by (rw [← hji4]; unfold mx; (repeat' split) <;> omega)))
  (try (have hji4m : 0 ≤ ji4 := by omega))
  have hji4_ : (if a1 < 1 then 1 else a1) = ji4 := hji4
  by_cases c5 : (ji3) ≥ (ji4)
  · rw [if_pos c5] at H
    have c5b0 : decide ((ji4) ≤ (ji3)) = true := decide_eq_true c5
    clear c5
    obtain rfl := Option.some.inj H
    go_enter Try.func14, Try.ntmps14
    go_wp2
    go_ret
    exact ⟨by first | rfl | (simp [errW_none, errW_some] <;> rfl) | (simp only [← hji3, ← hji4]; first | rfl | (simp [errW_none, errW_some] <;> rfl)) | (simp [*, errW_none, errW_some] <;> rfl), by repeat (first | (with_reducible first | exact HB.out | apply below_alloc | apply pw_below_drewN | apply below_drew1) | exact HB.out)⟩
  · rw [if_neg c5] at H
    have c5b0 : decide ((ji4) ≤ (ji3)) = false := decide_eq_false c5
    clear c5
    obtain rfl := Option.some.inj H
    go_enter Try.func14, Try.ntmps14
    go_wp2
    go_ret
    exact ⟨by first | rfl | (simp [errW_none, errW_some] <;> rfl) | (simp only [← hji3, ← hji4]; first | rfl | (simp [errW_none, errW_some] <;> rfl)) | (simp [*, errW_none, errW_some] <;> rfl), by repeat (first | (with_reducible first | exact HB.out | apply below_alloc | apply pw_below_drewN | apply below_drew1) | exact HB.out)⟩

/-! ### policy_later: function 24 -/
def policy_later.f (a0 : Int) (a1 : Int) : Option (Int) := if a0 > 0 then (if a1 > (wrap64 (9223372036854775807 - a0)) then (some 9223372036854775807) else (some (wrap64 (a0 + a1)))) else (some (wrap64 (a0 + a1)))
set_option maxHeartbeats 8000000 in
set_option maxRecDepth 100000 in
theorem policy_later.calls (a0 : Int) (a1 : Int) (r : Int) (w : World) (h : policy_later.f a0 a1 = some r) :
    Calls Try.prog 24 #[.int .i64 a0, .int .i64 a1] w fun e w' => e = .returned (.int .i64 r) ∧ Drawn0 w w' := by
  have H : (if a0 > 0 then (if a1 > (wrap64 (9223372036854775807 - a0)) then (some 9223372036854775807) else (some (wrap64 (a0 + a1)))) else (some (wrap64 (a0 + a1)))) = some r := h
  clear h
  by_cases c3 : a0 > 0
  · rw [if_pos c3] at H
    have c3b0 : decide (0 < a0) = true := decide_eq_true c3
    clear c3
    by_cases c4 : a1 > (wrap64 (9223372036854775807 - a0))
    · rw [if_pos c4] at H
      have c4b0 : decide ((wrap64 (9223372036854775807 - a0)) < a1) = true := decide_eq_true c4
      clear c4
      obtain rfl := Option.some.inj H
      go_enter Try.func24, Try.ntmps24
      go_wp2
      go_ret
      exact ⟨by first | rfl | (simp; done) | (simp [*]; done), by repeat (first | exact Drawn0.refl _ | apply Drawn0.step)⟩
    · rw [if_neg c4] at H
      have c4b0 : decide ((wrap64 (9223372036854775807 - a0)) < a1) = false := decide_eq_false c4
      clear c4
      obtain rfl := Option.some.inj H
      go_enter Try.func24, Try.ntmps24
      go_wp2
      go_ret
      exact ⟨by first | rfl | (simp; done) | (simp [*]; done), by repeat (first | exact Drawn0.refl _ | apply Drawn0.step)⟩
  · rw [if_neg c3] at H
    have c3b0 : decide (0 < a0) = false := decide_eq_false c3
    clear c3
    obtain rfl := Option.some.inj H
    go_enter Try.func24, Try.ntmps24
    go_wp2
    go_ret
    exact ⟨by first | rfl | (simp; done) | (simp [*]; done), by repeat (first | exact Drawn0.refl _ | apply Drawn0.step)⟩

/-! ### policy_Life: function 15 -/
def policy_Life.f (a0 : Int) (a1 : Int) (a2 : Int) : Option (Int) := if a0 < 1 then ((policy_later.f a2 (mx a1 0)).bind fun t101 => (some t101)) else (if a0 > (mx a1 0) then ((policy_later.f a2 (mx a1 0)).bind fun t102 => (some t102)) else ((policy_later.f a2 a0).bind fun t103 => (some t103)))
set_option maxHeartbeats 8000000 in
set_option maxRecDepth 100000 in
theorem policy_Life.calls (a0 : Int) (a1 : Int) (a2 : Int) (r : Int) (w : World) (h : policy_Life.f a0 a1 a2 = some r) :
    Calls Try.prog 15 #[.int .i64 a0, .int .i64 a1, .int .i64 a2] w fun e w' => e = .returned (.int .i64 r) ∧ Below w.heap.size w w' := by
  have HB := Aside0.mk (Below.refl w.heap.size w)
  have H : (if a0 < 1 then ((policy_later.f a2 (mx a1 0)).bind fun t101 => (some t101)) else (if a0 > (mx a1 0) then ((policy_later.f a2 (mx a1 0)).bind fun t102 => (some t102)) else ((policy_later.f a2 a0).bind fun t103 => (some t103)))) = some r := h
  clear h
  obtain ⟨ji4, hji4⟩ : ∃ j_ : Int, (mx a1 0) = j_ := ⟨_, rfl⟩
  replace H : (if a0 < 1 then ((policy_later.f a2 (ji4)).bind fun t101 => (some t101)) else (if a0 > (ji4) then ((policy_later.f a2 (ji4)).bind fun t102 => (some t102)) else ((policy_later.f a2 a0).bind fun t103 => (some t103)))) = some r := by first | (rw [hji4] at H; exact H) | (simp only [hji4] at H ⊢; exact H)
  (try (have hji4l : 0 ≤ ji4 := by (rw [← hji4]; unfold mx; (repeat' split) <;> omega)))
  (try (have hji4m : 0 ≤ ji4 := by omega))
  have hji4_ : (if a1 < 0 then 0 else a1) = ji4 := hji4
  by_cases c5 : a0 < 1
  · rw [if_pos c5] at H
    have c5b0 : decide (a0 < 1) = true := decide_eq_true c5
    clear c5
    replace H := Option.bind_eq_some_iff.mp H
    obtain ⟨t101, A60, H⟩ := H
    replace H : (some t101) = some r := H
    have A6 := Aside0.mk A60
    clear A60
    obtain rfl := Option.some.inj H
    go_enter Try.func15, Try.ntmps15
    go_wp2_with (first | ((with_reducible refine gate_callee (f := 24) rfl ?_); refine goesL_ (some 19) rfl rfl Try.func24 (by kernel_rfl) rfl #[.int .i64 a2, .int .i64 ji4] rfl (by (try simp only [List.map_toArray, List.map_cons, List.map_nil]); first | done | (simp only [hji4]; rfl) | rfl | (simp only [List.length_drop, List.length_take]; rfl)) ?_; (with_reducible refine (policy_later.calls a2 ji4 t101 _ A6.out).mono ?_); rintro e w' ⟨rfl, ⟨nd, rfl⟩⟩; refine ⟨_, rfl, ?_⟩))
    go_ret
    exact ⟨by first | rfl | (simp [errW_none, errW_some] <;> rfl) | (simp only [← hji4]; first | rfl | (simp [errW_none, errW_some] <;> rfl)) | (simp [*, errW_none, errW_some] <;> rfl), by repeat (first | (with_reducible first | exact HB.out | apply below_alloc | apply pw_below_drewN | apply below_drew1) | exact HB.out)⟩
  · rw [if_neg c5] at H
    have c5b0 : decide (a0 < 1) = false := decide_eq_false c5
    clear c5
    by_cases c7 : a0 > (ji4)
    · rw [if_pos c7] at H
      have c7b0 : decide ((ji4) < a0) = true := decide_eq_true c7
      clear c7
      replace H := Option.bind_eq_some_iff.mp H
      obtain ⟨t102, A80, H⟩ := H
      replace H : (some t102) = some r := H
      have A8 := Aside0.mk A80
      clear A80
      obtain rfl := Option.some.inj H
      go_enter Try.func15, Try.ntmps15
      go_wp2_with (first | ((with_reducible refine gate_callee (f := 24) rfl ?_); refine goesL_ (some 19) rfl rfl Try.func24 (by kernel_rfl) rfl #[.int .i64 a2, .int .i64 ji4] rfl (by (try simp only [List.map_toArray, List.map_cons, List.map_nil]); first | done | (simp only [hji4]; rfl) | rfl | (simp only [List.length_drop, List.length_take]; rfl)) ?_; (with_reducible refine (policy_later.calls a2 ji4 t102 _ A8.out).mono ?_); rintro e w' ⟨rfl, ⟨nd, rfl⟩⟩; refine ⟨_, rfl, ?_⟩))
      go_ret
      exact ⟨by first | rfl | (simp [errW_none, errW_some] <;> rfl) | (simp only [← hji4]; first | rfl | (simp [errW_none, errW_some] <;> rfl)) | (simp [*, errW_none, errW_some] <;> rfl), by repeat (first | (with_reducible first | exact HB.out | apply below_alloc | apply pw_below_drewN | apply below_drew1) | exact HB.out)⟩
    · rw [if_neg c7] at H
      have c7b0 : decide ((ji4) < a0) = false := decide_eq_false c7
      clear c7
      replace H := Option.bind_eq_some_iff.mp H
      obtain ⟨t103, A90, H⟩ := H
      replace H : (some t103) = some r := H
      have A9 := Aside0.mk A90
      clear A90
      obtain rfl := Option.some.inj H
      go_enter Try.func15, Try.ntmps15
      go_wp2_with (first | ((with_reducible refine gate_callee (f := 24) rfl ?_); refine goesL_ (some 19) rfl rfl Try.func24 (by kernel_rfl) rfl #[.int .i64 a2, .int .i64 a0] rfl (by (try simp only [List.map_toArray, List.map_cons, List.map_nil]); first | done | rfl | (simp only [List.length_drop, List.length_take]; rfl)) ?_; (with_reducible refine (policy_later.calls a2 a0 t103 _ A9.out).mono ?_); rintro e w' ⟨rfl, ⟨nd, rfl⟩⟩; refine ⟨_, rfl, ?_⟩))
      go_ret
      exact ⟨by first | rfl | (simp [errW_none, errW_some] <;> rfl) | (simp only [← hji4]; first | rfl | (simp [errW_none, errW_some] <;> rfl)) | (simp [*, errW_none, errW_some] <;> rfl), by repeat (first | (with_reducible first | exact HB.out | apply below_alloc | apply pw_below_drewN | apply below_drew1) | exact HB.out)⟩

/-! ### policy_reaches: function 25 -/
def policy_reaches.f (a0 : Int) (a1 : Int) (a2 : Int) : Option (Bool) := if a0 ≥ a2 then (some true) else (if a1 > 0 then (some (decide ((IntKind.u64.wrap ((IntKind.u64.wrap (a2)) - (IntKind.u64.wrap (a0)))) ≤ (IntKind.u64.wrap (a1))))) else (some false))
set_option maxHeartbeats 8000000 in
set_option maxRecDepth 100000 in
theorem policy_reaches.calls (a0 : Int) (a1 : Int) (a2 : Int) (r : Bool) (w : World) (h : policy_reaches.f a0 a1 a2 = some r) :
    Calls Try.prog 25 #[.int .i64 a0, .int .i64 a1, .int .i64 a2] w fun e w' => e = .returned (.bool r) ∧ Drawn0 w w' := by
  have H : (if a0 ≥ a2 then (some true) else (if a1 > 0 then (some (decide ((IntKind.u64.wrap ((IntKind.u64.wrap (a2)) - (IntKind.u64.wrap (a0)))) ≤ (IntKind.u64.wrap (a1))))) else (some false))) = some r := h
  clear h
  by_cases c4 : a0 ≥ a2
  · rw [if_pos c4] at H
    have c4b0 : decide (a2 ≤ a0) = true := decide_eq_true c4
    clear c4
    obtain rfl := Option.some.inj H
    go_enter Try.func25, Try.ntmps25
    go_wp2
    go_ret
    exact ⟨by first | rfl | (simp; done) | (simp [*]; done), by repeat (first | exact Drawn0.refl _ | apply Drawn0.step)⟩
  · rw [if_neg c4] at H
    have c4b0 : decide (a2 ≤ a0) = false := decide_eq_false c4
    clear c4
    by_cases c5 : a1 > 0
    · rw [if_pos c5] at H
      have c5b0 : decide (0 < a1) = true := decide_eq_true c5
      clear c5
      obtain rfl := Option.some.inj H
      go_enter Try.func25, Try.ntmps25
      go_wp2
      go_ret
      exact ⟨by first | rfl | (simp; done) | (simp [*]; done), by repeat (first | exact Drawn0.refl _ | apply Drawn0.step)⟩
    · rw [if_neg c5] at H
      have c5b0 : decide (0 < a1) = false := decide_eq_false c5
      clear c5
      obtain rfl := Option.some.inj H
      go_enter Try.func25, Try.ntmps25
      go_wp2
      go_ret
      exact ⟨by first | rfl | (simp; done) | (simp [*]; done), by repeat (first | exact Drawn0.refl _ | apply Drawn0.step)⟩

/-! ### policy_Judge: function 16 -/
def policy_Judge.f (a0 : Int) (a1 : Int) (a2 : Int) (a3 : Int) : Option (Int) := (policy_reaches.f a0 (mx a3 0) a1).bind fun t104 => (if t104 = true then (if a0 ≥ a2 then (if (IntKind.u64.wrap ((IntKind.u64.wrap (a0)) - (IntKind.u64.wrap (a2)))) ≥ (IntKind.u64.wrap (mx a3 0)) then (some 2) else (some 0)) else (some 0)) else (some 1))
set_option maxHeartbeats 8000000 in
set_option maxRecDepth 100000 in
theorem policy_Judge.calls (a0 : Int) (a1 : Int) (a2 : Int) (a3 : Int) (r : Int) (w : World) (h : policy_Judge.f a0 a1 a2 a3 = some r) :
    Calls Try.prog 16 #[.int .i64 a0, .int .i64 a1, .int .i64 a2, .int .i64 a3] w fun e w' => e = .returned (.int .i64 r) ∧ Below w.heap.size w w' := by
  have HB := Aside0.mk (Below.refl w.heap.size w)
  have H : ((policy_reaches.f a0 (mx a3 0) a1).bind fun t104 => (if t104 = true then (if a0 ≥ a2 then (if (IntKind.u64.wrap ((IntKind.u64.wrap (a0)) - (IntKind.u64.wrap (a2)))) ≥ (IntKind.u64.wrap (mx a3 0)) then (some 2) else (some 0)) else (some 0)) else (some 1))) = some r := h
  clear h
  obtain ⟨ji5, hji5⟩ : ∃ j_ : Int, (mx a3 0) = j_ := ⟨_, rfl⟩
  replace H : ((policy_reaches.f a0 (ji5) a1).bind fun t104 => (if t104 = true then (if a0 ≥ a2 then (if (IntKind.u64.wrap ((IntKind.u64.wrap (a0)) - (IntKind.u64.wrap (a2)))) ≥ (IntKind.u64.wrap (ji5)) then (some 2) else (some 0)) else (some 0)) else (some 1))) = some r := by first | (rw [hji5] at H; exact H) | (simp only [hji5] at H ⊢; exact H)
  (try (have hji5l : 0 ≤ ji5 := by (rw [← hji5]; unfold mx; (repeat' split) <;> omega)))
  (try (have hji5m : 0 ≤ ji5 := by omega))
  have hji5_ : (if a3 < 0 then 0 else a3) = ji5 := hji5
  replace H := Option.bind_eq_some_iff.mp H
  obtain ⟨t104, A60, H⟩ := H
  replace H : (if t104 = true then (if a0 ≥ a2 then (if (IntKind.u64.wrap ((IntKind.u64.wrap (a0)) - (IntKind.u64.wrap (a2)))) ≥ (IntKind.u64.wrap (ji5)) then (some 2) else (some 0)) else (some 0)) else (some 1)) = some r := H
  have A6 := Aside0.mk A60
  clear A60
  by_cases c7 : t104 = true
  · subst c7
    have H1 : (if a0 ≥ a2 then (if (IntKind.u64.wrap ((IntKind.u64.wrap (a0)) - (IntKind.u64.wrap (a2)))) ≥ (IntKind.u64.wrap (ji5)) then (some 2) else (some 0)) else (some 0)) = some r := by rw [if_pos rfl] at H; exact H
    clear H
    have H := H1
    clear H1
    by_cases c8 : a0 ≥ a2
    · rw [if_pos c8] at H
      have c8b0 : decide (a2 ≤ a0) = true := decide_eq_true c8
      clear c8
      by_cases c9 : (IntKind.u64.wrap ((IntKind.u64.wrap (a0)) - (IntKind.u64.wrap (a2)))) ≥ (IntKind.u64.wrap (ji5))
      · rw [if_pos c9] at H
        have c9b0 : decide ((IntKind.u64.wrap (ji5)) ≤ (IntKind.u64.wrap ((IntKind.u64.wrap (a0)) - (IntKind.u64.wrap (a2))))) = true := decide_eq_true c9
        clear c9
        obtain rfl := Option.some.inj H
        go_enter Try.func16, Try.ntmps16
        go_wp2_with (first | ((with_reducible refine gate_callee (f := 25) rfl ?_); refine goesL_ (some 15) rfl rfl Try.func25 (by kernel_rfl) rfl #[.int .i64 a0, .int .i64 ji5, .int .i64 a1] rfl (by (try simp only [List.map_toArray, List.map_cons, List.map_nil]); first | done | (simp only [hji5]; rfl) | rfl | (simp only [List.length_drop, List.length_take]; rfl)) ?_; (with_reducible refine (policy_reaches.calls a0 ji5 a1 true _ A6.out).mono ?_); rintro e w' ⟨rfl, ⟨nd, rfl⟩⟩; refine ⟨_, rfl, ?_⟩))
        go_ret
        exact ⟨by first | rfl | (simp [errW_none, errW_some] <;> rfl) | (simp only [← hji5]; first | rfl | (simp [errW_none, errW_some] <;> rfl)) | (simp [*, errW_none, errW_some] <;> rfl), by repeat (first | (with_reducible first | exact HB.out | apply below_alloc | apply pw_below_drewN | apply below_drew1) | exact HB.out)⟩
      · rw [if_neg c9] at H
        have c9b0 : decide ((IntKind.u64.wrap (ji5)) ≤ (IntKind.u64.wrap ((IntKind.u64.wrap (a0)) - (IntKind.u64.wrap (a2))))) = false := decide_eq_false c9
        clear c9
        obtain rfl := Option.some.inj H
        go_enter Try.func16, Try.ntmps16
        go_wp2_with (first | ((with_reducible refine gate_callee (f := 25) rfl ?_); refine goesL_ (some 15) rfl rfl Try.func25 (by kernel_rfl) rfl #[.int .i64 a0, .int .i64 ji5, .int .i64 a1] rfl (by (try simp only [List.map_toArray, List.map_cons, List.map_nil]); first | done | (simp only [hji5]; rfl) | rfl | (simp only [List.length_drop, List.length_take]; rfl)) ?_; (with_reducible refine (policy_reaches.calls a0 ji5 a1 true _ A6.out).mono ?_); rintro e w' ⟨rfl, ⟨nd, rfl⟩⟩; refine ⟨_, rfl, ?_⟩))
        go_ret
        exact ⟨by first | rfl | (simp [errW_none, errW_some] <;> rfl) | (simp only [← hji5]; first | rfl | (simp [errW_none, errW_some] <;> rfl)) | (simp [*, errW_none, errW_some] <;> rfl), by repeat (first | (with_reducible first | exact HB.out | apply below_alloc | apply pw_below_drewN | apply below_drew1) | exact HB.out)⟩
    · rw [if_neg c8] at H
      have c8b0 : decide (a2 ≤ a0) = false := decide_eq_false c8
      clear c8
      obtain rfl := Option.some.inj H
      go_enter Try.func16, Try.ntmps16
      go_wp2_with (first | ((with_reducible refine gate_callee (f := 25) rfl ?_); refine goesL_ (some 15) rfl rfl Try.func25 (by kernel_rfl) rfl #[.int .i64 a0, .int .i64 ji5, .int .i64 a1] rfl (by (try simp only [List.map_toArray, List.map_cons, List.map_nil]); first | done | (simp only [hji5]; rfl) | rfl | (simp only [List.length_drop, List.length_take]; rfl)) ?_; (with_reducible refine (policy_reaches.calls a0 ji5 a1 true _ A6.out).mono ?_); rintro e w' ⟨rfl, ⟨nd, rfl⟩⟩; refine ⟨_, rfl, ?_⟩))
      go_ret
      exact ⟨by first | rfl | (simp [errW_none, errW_some] <;> rfl) | (simp only [← hji5]; first | rfl | (simp [errW_none, errW_some] <;> rfl)) | (simp [*, errW_none, errW_some] <;> rfl), by repeat (first | (with_reducible first | exact HB.out | apply below_alloc | apply pw_below_drewN | apply below_drew1) | exact HB.out)⟩
  · replace c7 := Bool.eq_false_iff.mpr c7
    subst c7
    have H1 : (some 1) = some r := by rw [if_neg (show ¬ (false = true) by decide)] at H; exact H
    clear H
    have H := H1
    clear H1
    obtain rfl := Option.some.inj H
    go_enter Try.func16, Try.ntmps16
    go_wp2_with (first | ((with_reducible refine gate_callee (f := 25) rfl ?_); refine goesL_ (some 15) rfl rfl Try.func25 (by kernel_rfl) rfl #[.int .i64 a0, .int .i64 ji5, .int .i64 a1] rfl (by (try simp only [List.map_toArray, List.map_cons, List.map_nil]); first | done | (simp only [hji5]; rfl) | rfl | (simp only [List.length_drop, List.length_take]; rfl)) ?_; (with_reducible refine (policy_reaches.calls a0 ji5 a1 false _ A6.out).mono ?_); rintro e w' ⟨rfl, ⟨nd, rfl⟩⟩; refine ⟨_, rfl, ?_⟩))
    go_ret
    exact ⟨by first | rfl | (simp [errW_none, errW_some] <;> rfl) | (simp only [← hji5]; first | rfl | (simp [errW_none, errW_some] <;> rfl)) | (simp [*, errW_none, errW_some] <;> rfl), by repeat (first | (with_reducible first | exact HB.out | apply below_alloc | apply pw_below_drewN | apply below_drew1) | exact HB.out)⟩

/-! ### sluicewaylaw11_shown: function 12 -/
def sluicewaylaw11_shown.f  : Option (Bool) := (policy_Judge.f 10 12 20 2).bind fun t105 => (if t105 = 0 then ((policy_Judge.f 9 12 20 2).bind fun t106 => (if t106 = 1 then ((policy_Judge.f 22 12 20 2).bind fun t107 => (if t107 = 2 then ((policy_Life.f 5 10 100).bind fun t108 => (if t108 = 105 then ((policy_Fail.f 0 3).bind fun t109 => (if t109 = 1 then ((policy_Locked.f 3 3).bind fun t110 => (some t110)) else (some false))) else (some false))) else (some false))) else (some false))) else (some false))
set_option maxHeartbeats 8000000 in
set_option maxRecDepth 100000 in
theorem sluicewaylaw11_shown.calls  (r : Bool) (w : World) (h : sluicewaylaw11_shown.f  = some r) :
    Calls Try.prog 12 #[] w fun e w' => e = .returned (.bool r) ∧ Below w.heap.size w w' := by
  have HB := Aside0.mk (Below.refl w.heap.size w)
  have H : ((policy_Judge.f 10 12 20 2).bind fun t105 => (if t105 = 0 then ((policy_Judge.f 9 12 20 2).bind fun t106 => (if t106 = 1 then ((policy_Judge.f 22 12 20 2).bind fun t107 => (if t107 = 2 then ((policy_Life.f 5 10 100).bind fun t108 => (if t108 = 105 then ((policy_Fail.f 0 3).bind fun t109 => (if t109 = 1 then ((policy_Locked.f 3 3).bind fun t110 => (some t110)) else (some false))) else (some false))) else (some false))) else (some false))) else (some false))) = some r := h
  clear h
  replace H := Option.bind_eq_some_iff.mp H
  obtain ⟨t105, A10, H⟩ := H
  replace H : (if t105 = 0 then ((policy_Judge.f 9 12 20 2).bind fun t106 => (if t106 = 1 then ((policy_Judge.f 22 12 20 2).bind fun t107 => (if t107 = 2 then ((policy_Life.f 5 10 100).bind fun t108 => (if t108 = 105 then ((policy_Fail.f 0 3).bind fun t109 => (if t109 = 1 then ((policy_Locked.f 3 3).bind fun t110 => (some t110)) else (some false))) else (some false))) else (some false))) else (some false))) else (some false)) = some r := H
  have A1 := Aside0.mk A10
  clear A10
  by_cases c2 : t105 = 0
  · rw [if_pos c2] at H
    have c2b0 : (t105 == 0) = true := beq_iff_eq.mpr c2
    have c2b1 : (t105 != 0) = false := bne_eq_false_iff_eq.mpr c2
    clear c2
    replace H := Option.bind_eq_some_iff.mp H
    obtain ⟨t106, A30, H⟩ := H
    replace H : (if t106 = 1 then ((policy_Judge.f 22 12 20 2).bind fun t107 => (if t107 = 2 then ((policy_Life.f 5 10 100).bind fun t108 => (if t108 = 105 then ((policy_Fail.f 0 3).bind fun t109 => (if t109 = 1 then ((policy_Locked.f 3 3).bind fun t110 => (some t110)) else (some false))) else (some false))) else (some false))) else (some false)) = some r := H
    have A3 := Aside0.mk A30
    clear A30
    by_cases c4 : t106 = 1
    · rw [if_pos c4] at H
      have c4b0 : (t106 == 1) = true := beq_iff_eq.mpr c4
      have c4b1 : (t106 != 1) = false := bne_eq_false_iff_eq.mpr c4
      clear c4
      replace H := Option.bind_eq_some_iff.mp H
      obtain ⟨t107, A50, H⟩ := H
      replace H : (if t107 = 2 then ((policy_Life.f 5 10 100).bind fun t108 => (if t108 = 105 then ((policy_Fail.f 0 3).bind fun t109 => (if t109 = 1 then ((policy_Locked.f 3 3).bind fun t110 => (some t110)) else (some false))) else (some false))) else (some false)) = some r := H
      have A5 := Aside0.mk A50
      clear A50
      by_cases c6 : t107 = 2
      · rw [if_pos c6] at H
        have c6b0 : (t107 == 2) = true := beq_iff_eq.mpr c6
        have c6b1 : (t107 != 2) = false := bne_eq_false_iff_eq.mpr c6
        clear c6
        replace H := Option.bind_eq_some_iff.mp H
        obtain ⟨t108, A70, H⟩ := H
        replace H : (if t108 = 105 then ((policy_Fail.f 0 3).bind fun t109 => (if t109 = 1 then ((policy_Locked.f 3 3).bind fun t110 => (some t110)) else (some false))) else (some false)) = some r := H
        have A7 := Aside0.mk A70
        clear A70
        by_cases c8 : t108 = 105
        · rw [if_pos c8] at H
          have c8b0 : (t108 == 105) = true := beq_iff_eq.mpr c8
          have c8b1 : (t108 != 105) = false := bne_eq_false_iff_eq.mpr c8
          clear c8
          replace H := Option.bind_eq_some_iff.mp H
          obtain ⟨t109, A90, H⟩ := H
          replace H : (if t109 = 1 then ((policy_Locked.f 3 3).bind fun t110 => (some t110)) else (some false)) = some r := H
          have A9 := Aside0.mk A90
          clear A90
          by_cases c10 : t109 = 1
          · rw [if_pos c10] at H
            have c10b0 : (t109 == 1) = true := beq_iff_eq.mpr c10
            have c10b1 : (t109 != 1) = false := bne_eq_false_iff_eq.mpr c10
            clear c10
            replace H := Option.bind_eq_some_iff.mp H
            obtain ⟨t110, A110, H⟩ := H
            replace H : (some t110) = some r := H
            have A11 := Aside0.mk A110
            clear A110
            obtain rfl := Option.some.inj H
            go_enter Try.func12, Try.ntmps12
            go_wp2_with (first | ((with_reducible refine gate_callee (f := 16) rfl ?_); refine goesL_ (some 1) rfl rfl Try.func16 (by kernel_rfl) rfl #[.int .i64 10, .int .i64 12, .int .i64 20, .int .i64 2] rfl (by (try simp only [List.map_toArray, List.map_cons, List.map_nil]); first | done | rfl | (simp only [List.length_drop, List.length_take]; rfl)) ?_; (with_reducible refine (policy_Judge.calls 10 12 20 2 t105 _ A1.out).mono ?_); rintro e w12 ⟨rfl, hb⟩; refine ⟨_, rfl, ?_⟩; have n0_ := Aside0.mk (below_step (by repeat (first | (with_reducible first | exact HB.out | apply below_alloc | apply pw_below_drewN | apply below_drew1) | exact HB.out)) hb); clear HB; have HB := n0_; clear n0_; (try clear hb); (try clear hb2); (try clear hk); (try clear hi)) | (go_at_call 16; (with_reducible refine (policy_Judge.calls 9 12 20 2 t106 _ A3.out).mono ?_); rintro e w13 ⟨rfl, hb⟩; have n0_ := Aside0.mk (below_step (by repeat (first | (with_reducible first | exact HB.out | apply below_alloc | apply pw_below_drewN | apply below_drew1) | exact HB.out)) hb); clear HB; have HB := n0_; clear n0_; (try clear hb); (try clear hb2); (try clear hk); (try clear hi)) | (go_at_call 16; (with_reducible refine (policy_Judge.calls 22 12 20 2 t107 _ A5.out).mono ?_); rintro e w14 ⟨rfl, hb⟩; have n0_ := Aside0.mk (below_step (by repeat (first | (with_reducible first | exact HB.out | apply below_alloc | apply pw_below_drewN | apply below_drew1) | exact HB.out)) hb); clear HB; have HB := n0_; clear n0_; (try clear hb); (try clear hb2); (try clear hk); (try clear hi)) | (go_at_call 15; (with_reducible refine (policy_Life.calls 5 10 100 t108 _ A7.out).mono ?_); rintro e w15 ⟨rfl, hb⟩; have n0_ := Aside0.mk (below_step (by repeat (first | (with_reducible first | exact HB.out | apply below_alloc | apply pw_below_drewN | apply below_drew1) | exact HB.out)) hb); clear HB; have HB := n0_; clear n0_; (try clear hb); (try clear hb2); (try clear hk); (try clear hi)) | (go_at_call 14; (with_reducible refine (policy_Fail.calls 0 3 t109 _ A9.out).mono ?_); rintro e w16 ⟨rfl, hb⟩; have n0_ := Aside0.mk (below_step (by repeat (first | (with_reducible first | exact HB.out | apply below_alloc | apply pw_below_drewN | apply below_drew1) | exact HB.out)) hb); clear HB; have HB := n0_; clear n0_; (try clear hb); (try clear hb2); (try clear hk); (try clear hi)) | (go_at_call 13; (with_reducible refine (policy_Locked.calls 3 3 t110 _ A11.out).mono ?_); rintro e w17 ⟨rfl, hb⟩; have n0_ := Aside0.mk (below_step (by repeat (first | (with_reducible first | exact HB.out | apply below_alloc | apply pw_below_drewN | apply below_drew1) | exact HB.out)) hb); clear HB; have HB := n0_; clear n0_; (try clear hb); (try clear hb2); (try clear hk); (try clear hi)))
            go_ret
            exact ⟨by first | rfl | (simp [errW_none, errW_some] <;> rfl) | (simp [*, errW_none, errW_some] <;> rfl), by repeat (first | (with_reducible first | exact HB.out | apply below_alloc | apply pw_below_drewN | apply below_drew1) | exact HB.out)⟩
          · rw [if_neg c10] at H
            have c10b0 : (t109 == 1) = false := beq_eq_false_iff_ne.mpr c10
            have c10b1 : (t109 != 1) = true := bne_iff_ne.mpr c10
            obtain rfl := Option.some.inj H
            go_enter Try.func12, Try.ntmps12
            go_wp2_with (first | ((with_reducible refine gate_callee (f := 16) rfl ?_); refine goesL_ (some 1) rfl rfl Try.func16 (by kernel_rfl) rfl #[.int .i64 10, .int .i64 12, .int .i64 20, .int .i64 2] rfl (by (try simp only [List.map_toArray, List.map_cons, List.map_nil]); first | done | rfl | (simp only [List.length_drop, List.length_take]; rfl)) ?_; (with_reducible refine (policy_Judge.calls 10 12 20 2 t105 _ A1.out).mono ?_); rintro e w18 ⟨rfl, hb⟩; refine ⟨_, rfl, ?_⟩; have n0_ := Aside0.mk (below_step (by repeat (first | (with_reducible first | exact HB.out | apply below_alloc | apply pw_below_drewN | apply below_drew1) | exact HB.out)) hb); clear HB; have HB := n0_; clear n0_; (try clear hb); (try clear hb2); (try clear hk); (try clear hi)) | (go_at_call 16; (with_reducible refine (policy_Judge.calls 9 12 20 2 t106 _ A3.out).mono ?_); rintro e w19 ⟨rfl, hb⟩; have n0_ := Aside0.mk (below_step (by repeat (first | (with_reducible first | exact HB.out | apply below_alloc | apply pw_below_drewN | apply below_drew1) | exact HB.out)) hb); clear HB; have HB := n0_; clear n0_; (try clear hb); (try clear hb2); (try clear hk); (try clear hi)) | (go_at_call 16; (with_reducible refine (policy_Judge.calls 22 12 20 2 t107 _ A5.out).mono ?_); rintro e w20 ⟨rfl, hb⟩; have n0_ := Aside0.mk (below_step (by repeat (first | (with_reducible first | exact HB.out | apply below_alloc | apply pw_below_drewN | apply below_drew1) | exact HB.out)) hb); clear HB; have HB := n0_; clear n0_; (try clear hb); (try clear hb2); (try clear hk); (try clear hi)) | (go_at_call 15; (with_reducible refine (policy_Life.calls 5 10 100 t108 _ A7.out).mono ?_); rintro e w21 ⟨rfl, hb⟩; have n0_ := Aside0.mk (below_step (by repeat (first | (with_reducible first | exact HB.out | apply below_alloc | apply pw_below_drewN | apply below_drew1) | exact HB.out)) hb); clear HB; have HB := n0_; clear n0_; (try clear hb); (try clear hb2); (try clear hk); (try clear hi)) | (go_at_call 14; (with_reducible refine (policy_Fail.calls 0 3 t109 _ A9.out).mono ?_); rintro e w22 ⟨rfl, hb⟩; have n0_ := Aside0.mk (below_step (by repeat (first | (with_reducible first | exact HB.out | apply below_alloc | apply pw_below_drewN | apply below_drew1) | exact HB.out)) hb); clear HB; have HB := n0_; clear n0_; (try clear hb); (try clear hb2); (try clear hk); (try clear hi)))
            go_ret
            exact ⟨by first | rfl | (simp [errW_none, errW_some] <;> rfl) | (simp [*, errW_none, errW_some] <;> rfl), by repeat (first | (with_reducible first | exact HB.out | apply below_alloc | apply pw_below_drewN | apply below_drew1) | exact HB.out)⟩
        · rw [if_neg c8] at H
          have c8b0 : (t108 == 105) = false := beq_eq_false_iff_ne.mpr c8
          have c8b1 : (t108 != 105) = true := bne_iff_ne.mpr c8
          obtain rfl := Option.some.inj H
          go_enter Try.func12, Try.ntmps12
          go_wp2_with (first | ((with_reducible refine gate_callee (f := 16) rfl ?_); refine goesL_ (some 1) rfl rfl Try.func16 (by kernel_rfl) rfl #[.int .i64 10, .int .i64 12, .int .i64 20, .int .i64 2] rfl (by (try simp only [List.map_toArray, List.map_cons, List.map_nil]); first | done | rfl | (simp only [List.length_drop, List.length_take]; rfl)) ?_; (with_reducible refine (policy_Judge.calls 10 12 20 2 t105 _ A1.out).mono ?_); rintro e w23 ⟨rfl, hb⟩; refine ⟨_, rfl, ?_⟩; have n0_ := Aside0.mk (below_step (by repeat (first | (with_reducible first | exact HB.out | apply below_alloc | apply pw_below_drewN | apply below_drew1) | exact HB.out)) hb); clear HB; have HB := n0_; clear n0_; (try clear hb); (try clear hb2); (try clear hk); (try clear hi)) | (go_at_call 16; (with_reducible refine (policy_Judge.calls 9 12 20 2 t106 _ A3.out).mono ?_); rintro e w24 ⟨rfl, hb⟩; have n0_ := Aside0.mk (below_step (by repeat (first | (with_reducible first | exact HB.out | apply below_alloc | apply pw_below_drewN | apply below_drew1) | exact HB.out)) hb); clear HB; have HB := n0_; clear n0_; (try clear hb); (try clear hb2); (try clear hk); (try clear hi)) | (go_at_call 16; (with_reducible refine (policy_Judge.calls 22 12 20 2 t107 _ A5.out).mono ?_); rintro e w25 ⟨rfl, hb⟩; have n0_ := Aside0.mk (below_step (by repeat (first | (with_reducible first | exact HB.out | apply below_alloc | apply pw_below_drewN | apply below_drew1) | exact HB.out)) hb); clear HB; have HB := n0_; clear n0_; (try clear hb); (try clear hb2); (try clear hk); (try clear hi)) | (go_at_call 15; (with_reducible refine (policy_Life.calls 5 10 100 t108 _ A7.out).mono ?_); rintro e w26 ⟨rfl, hb⟩; have n0_ := Aside0.mk (below_step (by repeat (first | (with_reducible first | exact HB.out | apply below_alloc | apply pw_below_drewN | apply below_drew1) | exact HB.out)) hb); clear HB; have HB := n0_; clear n0_; (try clear hb); (try clear hb2); (try clear hk); (try clear hi)))
          go_ret
          exact ⟨by first | rfl | (simp [errW_none, errW_some] <;> rfl) | (simp [*, errW_none, errW_some] <;> rfl), by repeat (first | (with_reducible first | exact HB.out | apply below_alloc | apply pw_below_drewN | apply below_drew1) | exact HB.out)⟩
      · rw [if_neg c6] at H
        have c6b0 : (t107 == 2) = false := beq_eq_false_iff_ne.mpr c6
        have c6b1 : (t107 != 2) = true := bne_iff_ne.mpr c6
        obtain rfl := Option.some.inj H
        go_enter Try.func12, Try.ntmps12
        go_wp2_with (first | ((with_reducible refine gate_callee (f := 16) rfl ?_); refine goesL_ (some 1) rfl rfl Try.func16 (by kernel_rfl) rfl #[.int .i64 10, .int .i64 12, .int .i64 20, .int .i64 2] rfl (by (try simp only [List.map_toArray, List.map_cons, List.map_nil]); first | done | rfl | (simp only [List.length_drop, List.length_take]; rfl)) ?_; (with_reducible refine (policy_Judge.calls 10 12 20 2 t105 _ A1.out).mono ?_); rintro e w27 ⟨rfl, hb⟩; refine ⟨_, rfl, ?_⟩; have n0_ := Aside0.mk (below_step (by repeat (first | (with_reducible first | exact HB.out | apply below_alloc | apply pw_below_drewN | apply below_drew1) | exact HB.out)) hb); clear HB; have HB := n0_; clear n0_; (try clear hb); (try clear hb2); (try clear hk); (try clear hi)) | (go_at_call 16; (with_reducible refine (policy_Judge.calls 9 12 20 2 t106 _ A3.out).mono ?_); rintro e w28 ⟨rfl, hb⟩; have n0_ := Aside0.mk (below_step (by repeat (first | (with_reducible first | exact HB.out | apply below_alloc | apply pw_below_drewN | apply below_drew1) | exact HB.out)) hb); clear HB; have HB := n0_; clear n0_; (try clear hb); (try clear hb2); (try clear hk); (try clear hi)) | (go_at_call 16; (with_reducible refine (policy_Judge.calls 22 12 20 2 t107 _ A5.out).mono ?_); rintro e w29 ⟨rfl, hb⟩; have n0_ := Aside0.mk (below_step (by repeat (first | (with_reducible first | exact HB.out | apply below_alloc | apply pw_below_drewN | apply below_drew1) | exact HB.out)) hb); clear HB; have HB := n0_; clear n0_; (try clear hb); (try clear hb2); (try clear hk); (try clear hi)))
        go_ret
        exact ⟨by first | rfl | (simp [errW_none, errW_some] <;> rfl) | (simp [*, errW_none, errW_some] <;> rfl), by repeat (first | (with_reducible first | exact HB.out | apply below_alloc | apply pw_below_drewN | apply below_drew1) | exact HB.out)⟩
    · rw [if_neg c4] at H
      have c4b0 : (t106 == 1) = false := beq_eq_false_iff_ne.mpr c4
      have c4b1 : (t106 != 1) = true := bne_iff_ne.mpr c4
      obtain rfl := Option.some.inj H
      go_enter Try.func12, Try.ntmps12
      go_wp2_with (first | ((with_reducible refine gate_callee (f := 16) rfl ?_); refine goesL_ (some 1) rfl rfl Try.func16 (by kernel_rfl) rfl #[.int .i64 10, .int .i64 12, .int .i64 20, .int .i64 2] rfl (by (try simp only [List.map_toArray, List.map_cons, List.map_nil]); first | done | rfl | (simp only [List.length_drop, List.length_take]; rfl)) ?_; (with_reducible refine (policy_Judge.calls 10 12 20 2 t105 _ A1.out).mono ?_); rintro e w30 ⟨rfl, hb⟩; refine ⟨_, rfl, ?_⟩; have n0_ := Aside0.mk (below_step (by repeat (first | (with_reducible first | exact HB.out | apply below_alloc | apply pw_below_drewN | apply below_drew1) | exact HB.out)) hb); clear HB; have HB := n0_; clear n0_; (try clear hb); (try clear hb2); (try clear hk); (try clear hi)) | (go_at_call 16; (with_reducible refine (policy_Judge.calls 9 12 20 2 t106 _ A3.out).mono ?_); rintro e w31 ⟨rfl, hb⟩; have n0_ := Aside0.mk (below_step (by repeat (first | (with_reducible first | exact HB.out | apply below_alloc | apply pw_below_drewN | apply below_drew1) | exact HB.out)) hb); clear HB; have HB := n0_; clear n0_; (try clear hb); (try clear hb2); (try clear hk); (try clear hi)))
      go_ret
      exact ⟨by first | rfl | (simp [errW_none, errW_some] <;> rfl) | (simp [*, errW_none, errW_some] <;> rfl), by repeat (first | (with_reducible first | exact HB.out | apply below_alloc | apply pw_below_drewN | apply below_drew1) | exact HB.out)⟩
  · rw [if_neg c2] at H
    have c2b0 : (t105 == 0) = false := beq_eq_false_iff_ne.mpr c2
    have c2b1 : (t105 != 0) = true := bne_iff_ne.mpr c2
    obtain rfl := Option.some.inj H
    go_enter Try.func12, Try.ntmps12
    go_wp2_with (first | ((with_reducible refine gate_callee (f := 16) rfl ?_); refine goesL_ (some 1) rfl rfl Try.func16 (by kernel_rfl) rfl #[.int .i64 10, .int .i64 12, .int .i64 20, .int .i64 2] rfl (by (try simp only [List.map_toArray, List.map_cons, List.map_nil]); first | done | rfl | (simp only [List.length_drop, List.length_take]; rfl)) ?_; (with_reducible refine (policy_Judge.calls 10 12 20 2 t105 _ A1.out).mono ?_); rintro e w32 ⟨rfl, hb⟩; refine ⟨_, rfl, ?_⟩; have n0_ := Aside0.mk (below_step (by repeat (first | (with_reducible first | exact HB.out | apply below_alloc | apply pw_below_drewN | apply below_drew1) | exact HB.out)) hb); clear HB; have HB := n0_; clear n0_; (try clear hb); (try clear hb2); (try clear hk); (try clear hi)))
    go_ret
    exact ⟨by first | rfl | (simp [errW_none, errW_some] <;> rfl) | (simp [*, errW_none, errW_some] <;> rfl), by repeat (first | (with_reducible first | exact HB.out | apply below_alloc | apply pw_below_drewN | apply below_drew1) | exact HB.out)⟩

/-! ### policy_Skewed: function 18 -/
def policy_Skewed.f (a0 : Int) (a1 : Int) (a2 : Int) : Option (Bool) := (policy_reaches.f a0 (mx a2 0) a1).bind fun t111 => (if t111 = true then ((policy_reaches.f a1 (mx a2 0) a0).bind fun t112 => (some (!t112))) else (some true))
set_option maxHeartbeats 8000000 in
set_option maxRecDepth 100000 in
theorem policy_Skewed.calls (a0 : Int) (a1 : Int) (a2 : Int) (r : Bool) (w : World) (h : policy_Skewed.f a0 a1 a2 = some r) :
    Calls Try.prog 18 #[.int .i64 a0, .int .i64 a1, .int .i64 a2] w fun e w' => e = .returned (.bool r) ∧ Below w.heap.size w w' := by
  have HB := Aside0.mk (Below.refl w.heap.size w)
  have H : ((policy_reaches.f a0 (mx a2 0) a1).bind fun t111 => (if t111 = true then ((policy_reaches.f a1 (mx a2 0) a0).bind fun t112 => (some (!t112))) else (some true))) = some r := h
  clear h
  obtain ⟨ji4, hji4⟩ : ∃ j_ : Int, (mx a2 0) = j_ := ⟨_, rfl⟩
  replace H : ((policy_reaches.f a0 (ji4) a1).bind fun t111 => (if t111 = true then ((policy_reaches.f a1 (ji4) a0).bind fun t112 => (some (!t112))) else (some true))) = some r := by first | (rw [hji4] at H; exact H) | (simp only [hji4] at H ⊢; exact H)
  (try (have hji4l : 0 ≤ ji4 := by (rw [← hji4]; unfold mx; (repeat' split) <;> omega)))
  (try (have hji4m : 0 ≤ ji4 := by omega))
  have hji4_ : (if a2 < 0 then 0 else a2) = ji4 := hji4
  replace H := Option.bind_eq_some_iff.mp H
  obtain ⟨t111, A50, H⟩ := H
  replace H : (if t111 = true then ((policy_reaches.f a1 (ji4) a0).bind fun t112 => (some (!t112))) else (some true)) = some r := H
  have A5 := Aside0.mk A50
  clear A50
  by_cases c6 : t111 = true
  · subst c6
    have H1 : ((policy_reaches.f a1 (ji4) a0).bind fun t112 => (some (!t112))) = some r := by rw [if_pos rfl] at H; exact H
    clear H
    have H := H1
    clear H1
    replace H := Option.bind_eq_some_iff.mp H
    obtain ⟨t112, A70, H⟩ := H
    replace H : (some (!t112)) = some r := H
    have A7 := Aside0.mk A70
    clear A70
    obtain rfl := Option.some.inj H
    go_enter Try.func18, Try.ntmps18
    go_wp2_with (first | ((with_reducible refine gate_callee (f := 25) rfl ?_); refine goesL_ (some 12) rfl rfl Try.func25 (by kernel_rfl) rfl #[.int .i64 a0, .int .i64 ji4, .int .i64 a1] rfl (by (try simp only [List.map_toArray, List.map_cons, List.map_nil]); first | done | (simp only [hji4]; rfl) | rfl | (simp only [List.length_drop, List.length_take]; rfl)) ?_; (with_reducible refine (policy_reaches.calls a0 ji4 a1 true _ A5.out).mono ?_); rintro e w' ⟨rfl, ⟨nd, rfl⟩⟩; refine ⟨_, rfl, ?_⟩) | (go_at_call 25; (with_reducible refine (policy_reaches.calls a1 ji4 a0 t112 _ A7.out).mono ?_); rintro e w' ⟨rfl, ⟨nd, rfl⟩⟩))
    go_ret
    exact ⟨by first | rfl | (simp [errW_none, errW_some] <;> rfl) | (simp only [← hji4]; first | rfl | (simp [errW_none, errW_some] <;> rfl)) | (simp [*, errW_none, errW_some] <;> rfl), by repeat (first | (with_reducible first | exact HB.out | apply below_alloc | apply pw_below_drewN | apply below_drew1) | exact HB.out)⟩
  · replace c6 := Bool.eq_false_iff.mpr c6
    subst c6
    have H1 : (some true) = some r := by rw [if_neg (show ¬ (false = true) by decide)] at H; exact H
    clear H
    have H := H1
    clear H1
    obtain rfl := Option.some.inj H
    go_enter Try.func18, Try.ntmps18
    go_wp2_with (first | ((with_reducible refine gate_callee (f := 25) rfl ?_); refine goesL_ (some 12) rfl rfl Try.func25 (by kernel_rfl) rfl #[.int .i64 a0, .int .i64 ji4, .int .i64 a1] rfl (by (try simp only [List.map_toArray, List.map_cons, List.map_nil]); first | done | (simp only [hji4]; rfl) | rfl | (simp only [List.length_drop, List.length_take]; rfl)) ?_; (with_reducible refine (policy_reaches.calls a0 ji4 a1 false _ A5.out).mono ?_); rintro e w' ⟨rfl, ⟨nd, rfl⟩⟩; refine ⟨_, rfl, ?_⟩))
    go_ret
    exact ⟨by first | rfl | (simp [errW_none, errW_some] <;> rfl) | (simp only [← hji4]; first | rfl | (simp [errW_none, errW_some] <;> rfl)) | (simp [*, errW_none, errW_some] <;> rfl), by repeat (first | (with_reducible first | exact HB.out | apply below_alloc | apply pw_below_drewN | apply below_drew1) | exact HB.out)⟩

/-! ### sluicewaylaw11_PolicyShifts: function 9 -/
def sluicewaylaw11_PolicyShifts.f (a0 : Int) (a1 : Int) (a2 : Int) (a3 : Int) (a4 : Int) : Option (Bool) := (sluicewaylaw11_shown.f).bind fun t113 => (if t113 = true then ((policy_Judge.f (Go.bits .and .i64 a0 1099511627775) (Go.bits .and .i64 a1 1099511627775) (Go.bits .and .i64 a2 1099511627775) (Go.bits .and .i64 a3 1099511627775)).bind fun t114 => ((policy_Judge.f (wrap64 ((Go.bits .and .i64 a0 1099511627775) + (Go.bits .and .i64 a4 1099511627775))) (wrap64 ((Go.bits .and .i64 a1 1099511627775) + (Go.bits .and .i64 a4 1099511627775))) (wrap64 ((Go.bits .and .i64 a2 1099511627775) + (Go.bits .and .i64 a4 1099511627775))) (Go.bits .and .i64 a3 1099511627775)).bind fun t115 => (if t114 = t115 then ((policy_Skewed.f (Go.bits .and .i64 a0 1099511627775) (Go.bits .and .i64 a1 1099511627775) (Go.bits .and .i64 a3 1099511627775)).bind fun t116 => ((policy_Skewed.f (wrap64 ((Go.bits .and .i64 a0 1099511627775) + (Go.bits .and .i64 a4 1099511627775))) (wrap64 ((Go.bits .and .i64 a1 1099511627775) + (Go.bits .and .i64 a4 1099511627775))) (Go.bits .and .i64 a3 1099511627775)).bind fun t117 => (if (t116 == t117) = true then ((policy_Life.f (Go.bits .and .i64 a1 1099511627775) (Go.bits .and .i64 a2 1099511627775) (wrap64 ((Go.bits .and .i64 a0 1099511627775) + (Go.bits .and .i64 a4 1099511627775)))).bind fun t118 => ((policy_Life.f (Go.bits .and .i64 a1 1099511627775) (Go.bits .and .i64 a2 1099511627775) (Go.bits .and .i64 a0 1099511627775)).bind fun t119 => (some (t118 == (wrap64 (t119 + (Go.bits .and .i64 a4 1099511627775))))))) else (some false)))) else (some false)))) else (some false))
set_option maxHeartbeats 8000000 in
set_option maxRecDepth 100000 in
theorem sluicewaylaw11_PolicyShifts.calls (a0 : Int) (a1 : Int) (a2 : Int) (a3 : Int) (a4 : Int) (r : Bool) (w : World) (h : sluicewaylaw11_PolicyShifts.f a0 a1 a2 a3 a4 = some r) :
    Calls Try.prog 9 #[.int .i64 a0, .int .i64 a1, .int .i64 a2, .int .i64 a3, .int .i64 a4] w fun e w' => e = .returned (.bool r) ∧ Below w.heap.size w w' := by
  have HB := Aside0.mk (Below.refl w.heap.size w)
  have H : ((sluicewaylaw11_shown.f).bind fun t113 => (if t113 = true then ((policy_Judge.f (Go.bits .and .i64 a0 1099511627775) (Go.bits .and .i64 a1 1099511627775) (Go.bits .and .i64 a2 1099511627775) (Go.bits .and .i64 a3 1099511627775)).bind fun t114 => ((policy_Judge.f (wrap64 ((Go.bits .and .i64 a0 1099511627775) + (Go.bits .and .i64 a4 1099511627775))) (wrap64 ((Go.bits .and .i64 a1 1099511627775) + (Go.bits .and .i64 a4 1099511627775))) (wrap64 ((Go.bits .and .i64 a2 1099511627775) + (Go.bits .and .i64 a4 1099511627775))) (Go.bits .and .i64 a3 1099511627775)).bind fun t115 => (if t114 = t115 then ((policy_Skewed.f (Go.bits .and .i64 a0 1099511627775) (Go.bits .and .i64 a1 1099511627775) (Go.bits .and .i64 a3 1099511627775)).bind fun t116 => ((policy_Skewed.f (wrap64 ((Go.bits .and .i64 a0 1099511627775) + (Go.bits .and .i64 a4 1099511627775))) (wrap64 ((Go.bits .and .i64 a1 1099511627775) + (Go.bits .and .i64 a4 1099511627775))) (Go.bits .and .i64 a3 1099511627775)).bind fun t117 => (if (t116 == t117) = true then ((policy_Life.f (Go.bits .and .i64 a1 1099511627775) (Go.bits .and .i64 a2 1099511627775) (wrap64 ((Go.bits .and .i64 a0 1099511627775) + (Go.bits .and .i64 a4 1099511627775)))).bind fun t118 => ((policy_Life.f (Go.bits .and .i64 a1 1099511627775) (Go.bits .and .i64 a2 1099511627775) (Go.bits .and .i64 a0 1099511627775)).bind fun t119 => (some (t118 == (wrap64 (t119 + (Go.bits .and .i64 a4 1099511627775))))))) else (some false)))) else (some false)))) else (some false))) = some r := h
  clear h
  replace H := Option.bind_eq_some_iff.mp H
  obtain ⟨t113, A60, H⟩ := H
  replace H : (if t113 = true then ((policy_Judge.f (Go.bits .and .i64 a0 1099511627775) (Go.bits .and .i64 a1 1099511627775) (Go.bits .and .i64 a2 1099511627775) (Go.bits .and .i64 a3 1099511627775)).bind fun t114 => ((policy_Judge.f (wrap64 ((Go.bits .and .i64 a0 1099511627775) + (Go.bits .and .i64 a4 1099511627775))) (wrap64 ((Go.bits .and .i64 a1 1099511627775) + (Go.bits .and .i64 a4 1099511627775))) (wrap64 ((Go.bits .and .i64 a2 1099511627775) + (Go.bits .and .i64 a4 1099511627775))) (Go.bits .and .i64 a3 1099511627775)).bind fun t115 => (if t114 = t115 then ((policy_Skewed.f (Go.bits .and .i64 a0 1099511627775) (Go.bits .and .i64 a1 1099511627775) (Go.bits .and .i64 a3 1099511627775)).bind fun t116 => ((policy_Skewed.f (wrap64 ((Go.bits .and .i64 a0 1099511627775) + (Go.bits .and .i64 a4 1099511627775))) (wrap64 ((Go.bits .and .i64 a1 1099511627775) + (Go.bits .and .i64 a4 1099511627775))) (Go.bits .and .i64 a3 1099511627775)).bind fun t117 => (if (t116 == t117) = true then ((policy_Life.f (Go.bits .and .i64 a1 1099511627775) (Go.bits .and .i64 a2 1099511627775) (wrap64 ((Go.bits .and .i64 a0 1099511627775) + (Go.bits .and .i64 a4 1099511627775)))).bind fun t118 => ((policy_Life.f (Go.bits .and .i64 a1 1099511627775) (Go.bits .and .i64 a2 1099511627775) (Go.bits .and .i64 a0 1099511627775)).bind fun t119 => (some (t118 == (wrap64 (t119 + (Go.bits .and .i64 a4 1099511627775))))))) else (some false)))) else (some false)))) else (some false)) = some r := H
  have A6 := Aside0.mk A60
  clear A60
  by_cases c7 : t113 = true
  · subst c7
    have H1 : ((policy_Judge.f (Go.bits .and .i64 a0 1099511627775) (Go.bits .and .i64 a1 1099511627775) (Go.bits .and .i64 a2 1099511627775) (Go.bits .and .i64 a3 1099511627775)).bind fun t114 => ((policy_Judge.f (wrap64 ((Go.bits .and .i64 a0 1099511627775) + (Go.bits .and .i64 a4 1099511627775))) (wrap64 ((Go.bits .and .i64 a1 1099511627775) + (Go.bits .and .i64 a4 1099511627775))) (wrap64 ((Go.bits .and .i64 a2 1099511627775) + (Go.bits .and .i64 a4 1099511627775))) (Go.bits .and .i64 a3 1099511627775)).bind fun t115 => (if t114 = t115 then ((policy_Skewed.f (Go.bits .and .i64 a0 1099511627775) (Go.bits .and .i64 a1 1099511627775) (Go.bits .and .i64 a3 1099511627775)).bind fun t116 => ((policy_Skewed.f (wrap64 ((Go.bits .and .i64 a0 1099511627775) + (Go.bits .and .i64 a4 1099511627775))) (wrap64 ((Go.bits .and .i64 a1 1099511627775) + (Go.bits .and .i64 a4 1099511627775))) (Go.bits .and .i64 a3 1099511627775)).bind fun t117 => (if (t116 == t117) = true then ((policy_Life.f (Go.bits .and .i64 a1 1099511627775) (Go.bits .and .i64 a2 1099511627775) (wrap64 ((Go.bits .and .i64 a0 1099511627775) + (Go.bits .and .i64 a4 1099511627775)))).bind fun t118 => ((policy_Life.f (Go.bits .and .i64 a1 1099511627775) (Go.bits .and .i64 a2 1099511627775) (Go.bits .and .i64 a0 1099511627775)).bind fun t119 => (some (t118 == (wrap64 (t119 + (Go.bits .and .i64 a4 1099511627775))))))) else (some false)))) else (some false)))) = some r := by rw [if_pos rfl] at H; exact H
    clear H
    have H := H1
    clear H1
    replace H := Option.bind_eq_some_iff.mp H
    obtain ⟨t114, A80, H⟩ := H
    replace H : ((policy_Judge.f (wrap64 ((Go.bits .and .i64 a0 1099511627775) + (Go.bits .and .i64 a4 1099511627775))) (wrap64 ((Go.bits .and .i64 a1 1099511627775) + (Go.bits .and .i64 a4 1099511627775))) (wrap64 ((Go.bits .and .i64 a2 1099511627775) + (Go.bits .and .i64 a4 1099511627775))) (Go.bits .and .i64 a3 1099511627775)).bind fun t115 => (if t114 = t115 then ((policy_Skewed.f (Go.bits .and .i64 a0 1099511627775) (Go.bits .and .i64 a1 1099511627775) (Go.bits .and .i64 a3 1099511627775)).bind fun t116 => ((policy_Skewed.f (wrap64 ((Go.bits .and .i64 a0 1099511627775) + (Go.bits .and .i64 a4 1099511627775))) (wrap64 ((Go.bits .and .i64 a1 1099511627775) + (Go.bits .and .i64 a4 1099511627775))) (Go.bits .and .i64 a3 1099511627775)).bind fun t117 => (if (t116 == t117) = true then ((policy_Life.f (Go.bits .and .i64 a1 1099511627775) (Go.bits .and .i64 a2 1099511627775) (wrap64 ((Go.bits .and .i64 a0 1099511627775) + (Go.bits .and .i64 a4 1099511627775)))).bind fun t118 => ((policy_Life.f (Go.bits .and .i64 a1 1099511627775) (Go.bits .and .i64 a2 1099511627775) (Go.bits .and .i64 a0 1099511627775)).bind fun t119 => (some (t118 == (wrap64 (t119 + (Go.bits .and .i64 a4 1099511627775))))))) else (some false)))) else (some false))) = some r := H
    have A8 := Aside0.mk A80
    clear A80
    replace H := Option.bind_eq_some_iff.mp H
    obtain ⟨t115, A90, H⟩ := H
    replace H : (if t114 = t115 then ((policy_Skewed.f (Go.bits .and .i64 a0 1099511627775) (Go.bits .and .i64 a1 1099511627775) (Go.bits .and .i64 a3 1099511627775)).bind fun t116 => ((policy_Skewed.f (wrap64 ((Go.bits .and .i64 a0 1099511627775) + (Go.bits .and .i64 a4 1099511627775))) (wrap64 ((Go.bits .and .i64 a1 1099511627775) + (Go.bits .and .i64 a4 1099511627775))) (Go.bits .and .i64 a3 1099511627775)).bind fun t117 => (if (t116 == t117) = true then ((policy_Life.f (Go.bits .and .i64 a1 1099511627775) (Go.bits .and .i64 a2 1099511627775) (wrap64 ((Go.bits .and .i64 a0 1099511627775) + (Go.bits .and .i64 a4 1099511627775)))).bind fun t118 => ((policy_Life.f (Go.bits .and .i64 a1 1099511627775) (Go.bits .and .i64 a2 1099511627775) (Go.bits .and .i64 a0 1099511627775)).bind fun t119 => (some (t118 == (wrap64 (t119 + (Go.bits .and .i64 a4 1099511627775))))))) else (some false)))) else (some false)) = some r := H
    have A9 := Aside0.mk A90
    clear A90
    by_cases c10 : t114 = t115
    · rw [if_pos c10] at H
      have c10b0 : (t114 == t115) = true := beq_iff_eq.mpr c10
      have c10b1 : (t114 != t115) = false := bne_eq_false_iff_eq.mpr c10
      clear c10
      replace H := Option.bind_eq_some_iff.mp H
      obtain ⟨t116, A110, H⟩ := H
      replace H : ((policy_Skewed.f (wrap64 ((Go.bits .and .i64 a0 1099511627775) + (Go.bits .and .i64 a4 1099511627775))) (wrap64 ((Go.bits .and .i64 a1 1099511627775) + (Go.bits .and .i64 a4 1099511627775))) (Go.bits .and .i64 a3 1099511627775)).bind fun t117 => (if (t116 == t117) = true then ((policy_Life.f (Go.bits .and .i64 a1 1099511627775) (Go.bits .and .i64 a2 1099511627775) (wrap64 ((Go.bits .and .i64 a0 1099511627775) + (Go.bits .and .i64 a4 1099511627775)))).bind fun t118 => ((policy_Life.f (Go.bits .and .i64 a1 1099511627775) (Go.bits .and .i64 a2 1099511627775) (Go.bits .and .i64 a0 1099511627775)).bind fun t119 => (some (t118 == (wrap64 (t119 + (Go.bits .and .i64 a4 1099511627775))))))) else (some false))) = some r := H
      have A11 := Aside0.mk A110
      clear A110
      replace H := Option.bind_eq_some_iff.mp H
      obtain ⟨t117, A120, H⟩ := H
      replace H : (if (t116 == t117) = true then ((policy_Life.f (Go.bits .and .i64 a1 1099511627775) (Go.bits .and .i64 a2 1099511627775) (wrap64 ((Go.bits .and .i64 a0 1099511627775) + (Go.bits .and .i64 a4 1099511627775)))).bind fun t118 => ((policy_Life.f (Go.bits .and .i64 a1 1099511627775) (Go.bits .and .i64 a2 1099511627775) (Go.bits .and .i64 a0 1099511627775)).bind fun t119 => (some (t118 == (wrap64 (t119 + (Go.bits .and .i64 a4 1099511627775))))))) else (some false)) = some r := H
      have A12 := Aside0.mk A120
      clear A120
      by_cases c13 : (t116 == t117) = true
      · rw [if_pos c13] at H
        have c13b0 : (t116 == t117) = true := c13
        (try (have c13b1 : decide (t116 = t117) = true := by simpa using c13))
        (try (have c13b2 : (t116 == t117) = true := by simpa using c13))
        clear c13
        replace H := Option.bind_eq_some_iff.mp H
        obtain ⟨t118, A140, H⟩ := H
        replace H : ((policy_Life.f (Go.bits .and .i64 a1 1099511627775) (Go.bits .and .i64 a2 1099511627775) (Go.bits .and .i64 a0 1099511627775)).bind fun t119 => (some (t118 == (wrap64 (t119 + (Go.bits .and .i64 a4 1099511627775)))))) = some r := H
        have A14 := Aside0.mk A140
        clear A140
        replace H := Option.bind_eq_some_iff.mp H
        obtain ⟨t119, A150, H⟩ := H
        replace H : (some (t118 == (wrap64 (t119 + (Go.bits .and .i64 a4 1099511627775))))) = some r := H
        have A15 := Aside0.mk A150
        clear A150
        obtain rfl := Option.some.inj H
        go_enter Try.func9, Try.ntmps9
        go_wp2_with (first | ((with_reducible refine gate_callee (f := 12) rfl ?_); refine goesL_ (some 13) rfl rfl Try.func12 (by kernel_rfl) rfl #[] rfl (by (try simp only [List.map_toArray, List.map_cons, List.map_nil]); first | done | rfl | (simp only [List.length_drop, List.length_take]; rfl)) ?_; (with_reducible refine (sluicewaylaw11_shown.calls  true _ A6.out).mono ?_); rintro e w16 ⟨rfl, hb⟩; refine ⟨_, rfl, ?_⟩; have n0_ := Aside0.mk (below_step (by repeat (first | (with_reducible first | exact HB.out | apply below_alloc | apply pw_below_drewN | apply below_drew1) | exact HB.out)) hb); clear HB; have HB := n0_; clear n0_; (try clear hb); (try clear hb2); (try clear hk); (try clear hi)) | (go_at_call 16; (with_reducible refine (policy_Judge.calls (Go.bits .and .i64 a0 1099511627775) (Go.bits .and .i64 a1 1099511627775) (Go.bits .and .i64 a2 1099511627775) (Go.bits .and .i64 a3 1099511627775) t114 _ A8.out).mono ?_); rintro e w17 ⟨rfl, hb⟩; have n0_ := Aside0.mk (below_step (by repeat (first | (with_reducible first | exact HB.out | apply below_alloc | apply pw_below_drewN | apply below_drew1) | exact HB.out)) hb); clear HB; have HB := n0_; clear n0_; (try clear hb); (try clear hb2); (try clear hk); (try clear hi)) | (go_at_call 16; (with_reducible refine (policy_Judge.calls (wrap64 ((Go.bits .and .i64 a0 1099511627775) + (Go.bits .and .i64 a4 1099511627775))) (wrap64 ((Go.bits .and .i64 a1 1099511627775) + (Go.bits .and .i64 a4 1099511627775))) (wrap64 ((Go.bits .and .i64 a2 1099511627775) + (Go.bits .and .i64 a4 1099511627775))) (Go.bits .and .i64 a3 1099511627775) t115 _ A9.out).mono ?_); rintro e w18 ⟨rfl, hb⟩; have n0_ := Aside0.mk (below_step (by repeat (first | (with_reducible first | exact HB.out | apply below_alloc | apply pw_below_drewN | apply below_drew1) | exact HB.out)) hb); clear HB; have HB := n0_; clear n0_; (try clear hb); (try clear hb2); (try clear hk); (try clear hi)) | (go_at_call 18; (with_reducible refine (policy_Skewed.calls (Go.bits .and .i64 a0 1099511627775) (Go.bits .and .i64 a1 1099511627775) (Go.bits .and .i64 a3 1099511627775) t116 _ A11.out).mono ?_); rintro e w19 ⟨rfl, hb⟩; have n0_ := Aside0.mk (below_step (by repeat (first | (with_reducible first | exact HB.out | apply below_alloc | apply pw_below_drewN | apply below_drew1) | exact HB.out)) hb); clear HB; have HB := n0_; clear n0_; (try clear hb); (try clear hb2); (try clear hk); (try clear hi)) | (go_at_call 18; (with_reducible refine (policy_Skewed.calls (wrap64 ((Go.bits .and .i64 a0 1099511627775) + (Go.bits .and .i64 a4 1099511627775))) (wrap64 ((Go.bits .and .i64 a1 1099511627775) + (Go.bits .and .i64 a4 1099511627775))) (Go.bits .and .i64 a3 1099511627775) t117 _ A12.out).mono ?_); rintro e w20 ⟨rfl, hb⟩; have n0_ := Aside0.mk (below_step (by repeat (first | (with_reducible first | exact HB.out | apply below_alloc | apply pw_below_drewN | apply below_drew1) | exact HB.out)) hb); clear HB; have HB := n0_; clear n0_; (try clear hb); (try clear hb2); (try clear hk); (try clear hi)) | (go_at_call 15; (with_reducible refine (policy_Life.calls (Go.bits .and .i64 a1 1099511627775) (Go.bits .and .i64 a2 1099511627775) (wrap64 ((Go.bits .and .i64 a0 1099511627775) + (Go.bits .and .i64 a4 1099511627775))) t118 _ A14.out).mono ?_); rintro e w21 ⟨rfl, hb⟩; have n0_ := Aside0.mk (below_step (by repeat (first | (with_reducible first | exact HB.out | apply below_alloc | apply pw_below_drewN | apply below_drew1) | exact HB.out)) hb); clear HB; have HB := n0_; clear n0_; (try clear hb); (try clear hb2); (try clear hk); (try clear hi)) | (go_at_call 15; (with_reducible refine (policy_Life.calls (Go.bits .and .i64 a1 1099511627775) (Go.bits .and .i64 a2 1099511627775) (Go.bits .and .i64 a0 1099511627775) t119 _ A15.out).mono ?_); rintro e w22 ⟨rfl, hb⟩; have n0_ := Aside0.mk (below_step (by repeat (first | (with_reducible first | exact HB.out | apply below_alloc | apply pw_below_drewN | apply below_drew1) | exact HB.out)) hb); clear HB; have HB := n0_; clear n0_; (try clear hb); (try clear hb2); (try clear hk); (try clear hi)))
        go_ret
        exact ⟨by first | rfl | (simp [errW_none, errW_some] <;> rfl) | (simp [*, errW_none, errW_some] <;> rfl), by repeat (first | (with_reducible first | exact HB.out | apply below_alloc | apply pw_below_drewN | apply below_drew1) | exact HB.out)⟩
      · rw [if_neg c13] at H
        have c13b0 : (t116 == t117) = false := by simpa using c13
        (try (have c13b1 : decide (t116 = t117) = false := by simpa using c13))
        (try (have c13b2 : (t116 == t117) = false := by simpa using c13))
        (try (have c13b3 : ¬ (t116 = t117) := by simpa using c13))
        clear c13
        obtain rfl := Option.some.inj H
        go_enter Try.func9, Try.ntmps9
        go_wp2_with (first | ((with_reducible refine gate_callee (f := 12) rfl ?_); refine goesL_ (some 13) rfl rfl Try.func12 (by kernel_rfl) rfl #[] rfl (by (try simp only [List.map_toArray, List.map_cons, List.map_nil]); first | done | rfl | (simp only [List.length_drop, List.length_take]; rfl)) ?_; (with_reducible refine (sluicewaylaw11_shown.calls  true _ A6.out).mono ?_); rintro e w23 ⟨rfl, hb⟩; refine ⟨_, rfl, ?_⟩; have n0_ := Aside0.mk (below_step (by repeat (first | (with_reducible first | exact HB.out | apply below_alloc | apply pw_below_drewN | apply below_drew1) | exact HB.out)) hb); clear HB; have HB := n0_; clear n0_; (try clear hb); (try clear hb2); (try clear hk); (try clear hi)) | (go_at_call 16; (with_reducible refine (policy_Judge.calls (Go.bits .and .i64 a0 1099511627775) (Go.bits .and .i64 a1 1099511627775) (Go.bits .and .i64 a2 1099511627775) (Go.bits .and .i64 a3 1099511627775) t114 _ A8.out).mono ?_); rintro e w24 ⟨rfl, hb⟩; have n0_ := Aside0.mk (below_step (by repeat (first | (with_reducible first | exact HB.out | apply below_alloc | apply pw_below_drewN | apply below_drew1) | exact HB.out)) hb); clear HB; have HB := n0_; clear n0_; (try clear hb); (try clear hb2); (try clear hk); (try clear hi)) | (go_at_call 16; (with_reducible refine (policy_Judge.calls (wrap64 ((Go.bits .and .i64 a0 1099511627775) + (Go.bits .and .i64 a4 1099511627775))) (wrap64 ((Go.bits .and .i64 a1 1099511627775) + (Go.bits .and .i64 a4 1099511627775))) (wrap64 ((Go.bits .and .i64 a2 1099511627775) + (Go.bits .and .i64 a4 1099511627775))) (Go.bits .and .i64 a3 1099511627775) t115 _ A9.out).mono ?_); rintro e w25 ⟨rfl, hb⟩; have n0_ := Aside0.mk (below_step (by repeat (first | (with_reducible first | exact HB.out | apply below_alloc | apply pw_below_drewN | apply below_drew1) | exact HB.out)) hb); clear HB; have HB := n0_; clear n0_; (try clear hb); (try clear hb2); (try clear hk); (try clear hi)) | (go_at_call 18; (with_reducible refine (policy_Skewed.calls (Go.bits .and .i64 a0 1099511627775) (Go.bits .and .i64 a1 1099511627775) (Go.bits .and .i64 a3 1099511627775) t116 _ A11.out).mono ?_); rintro e w26 ⟨rfl, hb⟩; have n0_ := Aside0.mk (below_step (by repeat (first | (with_reducible first | exact HB.out | apply below_alloc | apply pw_below_drewN | apply below_drew1) | exact HB.out)) hb); clear HB; have HB := n0_; clear n0_; (try clear hb); (try clear hb2); (try clear hk); (try clear hi)) | (go_at_call 18; (with_reducible refine (policy_Skewed.calls (wrap64 ((Go.bits .and .i64 a0 1099511627775) + (Go.bits .and .i64 a4 1099511627775))) (wrap64 ((Go.bits .and .i64 a1 1099511627775) + (Go.bits .and .i64 a4 1099511627775))) (Go.bits .and .i64 a3 1099511627775) t117 _ A12.out).mono ?_); rintro e w27 ⟨rfl, hb⟩; have n0_ := Aside0.mk (below_step (by repeat (first | (with_reducible first | exact HB.out | apply below_alloc | apply pw_below_drewN | apply below_drew1) | exact HB.out)) hb); clear HB; have HB := n0_; clear n0_; (try clear hb); (try clear hb2); (try clear hk); (try clear hi)))
        go_ret
        exact ⟨by first | rfl | (simp [errW_none, errW_some] <;> rfl) | (simp [*, errW_none, errW_some] <;> rfl), by repeat (first | (with_reducible first | exact HB.out | apply below_alloc | apply pw_below_drewN | apply below_drew1) | exact HB.out)⟩
    · rw [if_neg c10] at H
      have c10b0 : (t114 == t115) = false := beq_eq_false_iff_ne.mpr c10
      have c10b1 : (t114 != t115) = true := bne_iff_ne.mpr c10
      obtain rfl := Option.some.inj H
      go_enter Try.func9, Try.ntmps9
      go_wp2_with (first | ((with_reducible refine gate_callee (f := 12) rfl ?_); refine goesL_ (some 13) rfl rfl Try.func12 (by kernel_rfl) rfl #[] rfl (by (try simp only [List.map_toArray, List.map_cons, List.map_nil]); first | done | rfl | (simp only [List.length_drop, List.length_take]; rfl)) ?_; (with_reducible refine (sluicewaylaw11_shown.calls  true _ A6.out).mono ?_); rintro e w28 ⟨rfl, hb⟩; refine ⟨_, rfl, ?_⟩; have n0_ := Aside0.mk (below_step (by repeat (first | (with_reducible first | exact HB.out | apply below_alloc | apply pw_below_drewN | apply below_drew1) | exact HB.out)) hb); clear HB; have HB := n0_; clear n0_; (try clear hb); (try clear hb2); (try clear hk); (try clear hi)) | (go_at_call 16; (with_reducible refine (policy_Judge.calls (Go.bits .and .i64 a0 1099511627775) (Go.bits .and .i64 a1 1099511627775) (Go.bits .and .i64 a2 1099511627775) (Go.bits .and .i64 a3 1099511627775) t114 _ A8.out).mono ?_); rintro e w29 ⟨rfl, hb⟩; have n0_ := Aside0.mk (below_step (by repeat (first | (with_reducible first | exact HB.out | apply below_alloc | apply pw_below_drewN | apply below_drew1) | exact HB.out)) hb); clear HB; have HB := n0_; clear n0_; (try clear hb); (try clear hb2); (try clear hk); (try clear hi)) | (go_at_call 16; (with_reducible refine (policy_Judge.calls (wrap64 ((Go.bits .and .i64 a0 1099511627775) + (Go.bits .and .i64 a4 1099511627775))) (wrap64 ((Go.bits .and .i64 a1 1099511627775) + (Go.bits .and .i64 a4 1099511627775))) (wrap64 ((Go.bits .and .i64 a2 1099511627775) + (Go.bits .and .i64 a4 1099511627775))) (Go.bits .and .i64 a3 1099511627775) t115 _ A9.out).mono ?_); rintro e w30 ⟨rfl, hb⟩; have n0_ := Aside0.mk (below_step (by repeat (first | (with_reducible first | exact HB.out | apply below_alloc | apply pw_below_drewN | apply below_drew1) | exact HB.out)) hb); clear HB; have HB := n0_; clear n0_; (try clear hb); (try clear hb2); (try clear hk); (try clear hi)))
      go_ret
      exact ⟨by first | rfl | (simp [errW_none, errW_some] <;> rfl) | (simp [*, errW_none, errW_some] <;> rfl), by repeat (first | (with_reducible first | exact HB.out | apply below_alloc | apply pw_below_drewN | apply below_drew1) | exact HB.out)⟩
  · replace c7 := Bool.eq_false_iff.mpr c7
    subst c7
    have H1 : (some false) = some r := by rw [if_neg (show ¬ (false = true) by decide)] at H; exact H
    clear H
    have H := H1
    clear H1
    obtain rfl := Option.some.inj H
    go_enter Try.func9, Try.ntmps9
    go_wp2_with (first | ((with_reducible refine gate_callee (f := 12) rfl ?_); refine goesL_ (some 13) rfl rfl Try.func12 (by kernel_rfl) rfl #[] rfl (by (try simp only [List.map_toArray, List.map_cons, List.map_nil]); first | done | rfl | (simp only [List.length_drop, List.length_take]; rfl)) ?_; (with_reducible refine (sluicewaylaw11_shown.calls  false _ A6.out).mono ?_); rintro e w31 ⟨rfl, hb⟩; refine ⟨_, rfl, ?_⟩; have n0_ := Aside0.mk (below_step (by repeat (first | (with_reducible first | exact HB.out | apply below_alloc | apply pw_below_drewN | apply below_drew1) | exact HB.out)) hb); clear HB; have HB := n0_; clear n0_; (try clear hb); (try clear hb2); (try clear hk); (try clear hi)))
    go_ret
    exact ⟨by first | rfl | (simp [errW_none, errW_some] <;> rfl) | (simp [*, errW_none, errW_some] <;> rfl), by repeat (first | (with_reducible first | exact HB.out | apply below_alloc | apply pw_below_drewN | apply below_drew1) | exact HB.out)⟩

/-- THE ONE PURE STATEMENT of sluicewaylaw11_PolicyShifts: yours. -/
def sluicewaylaw11_PolicyShifts.Pure : Prop := ∀ (a0 : Int) (a1 : Int) (a2 : Int) (a3 : Int) (a4 : Int), (Lit.int .i64 a0).wf = true → (Lit.int .i64 a1).wf = true → (Lit.int .i64 a2).wf = true → (Lit.int .i64 a3).wf = true → (Lit.int .i64 a4).wf = true → sluicewaylaw11_PolicyShifts.f a0 a1 a2 a3 a4 = some true
theorem sluicewaylaw11_PolicyShifts.walk (P : sluicewaylaw11_PolicyShifts.Pure) (a0 : Int) (a1 : Int) (a2 : Int) (a3 : Int) (a4 : Int) (w : World) (w0 : (Lit.int .i64 a0).wf = true) (w1 : (Lit.int .i64 a1).wf = true) (w2 : (Lit.int .i64 a2).wf = true) (w3 : (Lit.int .i64 a3).wf = true) (w4 : (Lit.int .i64 a4).wf = true) :
    Calls Try.prog 9 #[.int .i64 a0, .int .i64 a1, .int .i64 a2, .int .i64 a3, .int .i64 a4] w fun e w' => e = .returned (.bool true) ∧ Below w.heap.size w w' := by
  have h := P a0 a1 a2 a3 a4 w0 w1 w2 w3 w4
  refine (sluicewaylaw11_PolicyShifts.calls a0 a1 a2 a3 a4 true w h).mono ?_
  rintro e w' ⟨rfl, hd⟩
  exact ⟨rfl, hd⟩

end Go.Proofs.Ytohlendphajhhaa.PPolicyShifts
