-- Printed by a program of this session's own (the kit's print, patched: wip/scripts/patch.py), for this claim. Not trusted: Lean checks it.
import Derived.Test.YtpphoifjhhidfaaGDerTextsx0
import Derived.Test.YtpphoifjhhidfaaGDerTextsx1
namespace Go.Proofs.Ytpphoifjhhidfaa.GDerTexts
open Go.Proofs.Ytpphoifjhhidfaa.Der
open Go.RowKit Go.Proofs.YtpphoifjhhidfaaW.PrintWords Go.Proofs.YtpphoifjhhidfaaW.PrintLast Go.Proofs.YtpphoifjhhidfaaW.PrintMore
attribute [local go_sem] max2_int min2_int max_two min_two max_three min_three max_four min_four   -- for this text's walks alone
set_option linter.unusedVariables false
set_option linter.unusedSimpArgs false

/-! ### sluicewaylaw01_DerTexts: function 10 -/
mutual
def sluicewaylaw01_DerTexts.l0 : Nat → ByteArray → Bool → Bool → Int → Option (Bool)
  | 0, _, _, _, _ => none
  | k + 1, x0, x3, x4, x5 => if x5 < (x0.size : Int) then (if x4 = true then (if 0 ≤ x5 then (if (bt x0 x5) ≥ 32 then (sluicewaylaw01_DerTexts.l0 k x0 x3 (decide ((bt x0 x5) ≤ 126)) (wrap64 (x5 + 1))) else (sluicewaylaw01_DerTexts.l0 k x0 x3 false (wrap64 (x5 + 1)))) else (none)) else (sluicewaylaw01_DerTexts.l0 k x0 x3 false (wrap64 (x5 + 1)))) else ((der_Bytes.f 2 0 x0 0 ([] : List (S24))).bind fun bt133 => ((der_Bytes.f 3 0 x0 0 ([] : List (S24))).bind fun bt137 => ((der_Of.f bt133.1).bind fun bt141 => (if bt133.2 = 0 then (if bt141.2.2.2.2.2 = 0 then (if bt141.1 = 2 then (if bt141.2.2.1.toList = x0.toList then (sluicewaylaw01_DerTexts.j1 k x0 x3 x4 bt133.1 bt137.1 bt137.2 ((bt137.2 == 0) != x4)) else (sluicewaylaw01_DerTexts.j1 k x0 x3 x4 bt133.1 bt137.1 bt137.2 true)) else (sluicewaylaw01_DerTexts.j1 k x0 x3 x4 bt133.1 bt137.1 bt137.2 true)) else (sluicewaylaw01_DerTexts.j1 k x0 x3 x4 bt133.1 bt137.1 bt137.2 true)) else (sluicewaylaw01_DerTexts.j1 k x0 x3 x4 bt133.1 bt137.1 bt137.2 true)))))
def sluicewaylaw01_DerTexts.j1 : Nat → ByteArray → Bool → Bool → List Int → List Int → Int → Bool → Option (Bool)
  | 0, _, _, _, _, _, _, _ => none
  | k + 1, x0, x3, x4, x6, x8, x9, x79 => if x79 = true then (none) else ((some (([12] : List Int) : List Int)).bind fun y150 => (if 1 ≤ (x6.length : Int) then ((some (x6.drop 1 : List Int)).bind fun y153 => (if y150.length + y153.length < 140737488355328 then ((some (y150 ++ y153 : List Int)).bind fun y157 => ((der_Of.f y157).bind fun bt160 => (if x4 = true then (if x3 = true then (if (strOfNums x8).toList = (strOfNums y157).toList then (if bt160.2.2.2.2.2 = 0 then (if bt160.1 = 3 then (some (bt160.2.2.1.toList == x0.toList)) else (none)) else (none)) else (none)) else (none)) else (if x3 = true then (if x9 = 1 then (some (bt160.2.2.2.2.2 == 2)) else (none)) else (none))))) else (none))) else (none)))
end
def sluicewaylaw01_DerTexts.f (k : Nat) (a0 : ByteArray) : Option (Bool) := (sluicewaylaw01_shown.f).bind fun t132 => (if 0 ≤ (mn (a0.size : Int) 300) then (if (mn (a0.size : Int) 300) ≤ (a0.size : Int) then (sluicewaylaw01_DerTexts.l0 k (a0.extract 0 ((mn (a0.size : Int) 300) : Int).toNat) t132 true 0) else (none)) else (none))
theorem sluicewaylaw01_DerTexts.mono_l : ∀ k, (∀ y0 y1 y2 y3, LeO (sluicewaylaw01_DerTexts.l0 k y0 y1 y2 y3) (sluicewaylaw01_DerTexts.l0 (k + 1) y0 y1 y2 y3)) ∧ (∀ y0 y1 y2 y3 y4 y5 y6, LeO (sluicewaylaw01_DerTexts.j1 k y0 y1 y2 y3 y4 y5 y6) (sluicewaylaw01_DerTexts.j1 (k + 1) y0 y1 y2 y3 y4 y5 y6))
  | 0 => ⟨fun _ _ _ _ r h => by simp [sluicewaylaw01_DerTexts.l0] at h, fun _ _ _ _ _ _ _ r h => by simp [sluicewaylaw01_DerTexts.j1] at h⟩
  | k + 1 => by
    obtain ⟨ih0, ih1⟩ := sluicewaylaw01_DerTexts.mono_l k
    refine ⟨?_, ?_⟩
    · intro y0 y1 y2 y3
      unfold sluicewaylaw01_DerTexts.l0
      repeat' first
      | (with_reducible exact ih0 _ _ _ _)
      | (with_reducible exact ih1 _ _ _ _ _ _ _)
      | (with_reducible exact LeO.refl _)
      | (with_reducible exact LeO.none _)
      | (with_reducible refine LeO.ite ?_ ?_)
      | (with_reducible refine LeO.bind ?_ (fun _ => ?_))
      | exact ih0 _ _ _ _
      | exact ih1 _ _ _ _ _ _ _
      | exact LeO.none _
      | refine LeO.ite ?_ ?_
      | refine LeO.bind ?_ (fun _ => ?_)
    · intro y0 y1 y2 y3 y4 y5 y6
      unfold sluicewaylaw01_DerTexts.j1
      repeat' first
      | (with_reducible exact ih0 _ _ _ _)
      | (with_reducible exact ih1 _ _ _ _ _ _ _)
      | (with_reducible exact LeO.refl _)
      | (with_reducible exact LeO.none _)
      | (with_reducible refine LeO.ite ?_ ?_)
      | (with_reducible refine LeO.bind ?_ (fun _ => ?_))
      | exact ih0 _ _ _ _
      | exact ih1 _ _ _ _ _ _ _
      | exact LeO.none _
      | refine LeO.ite ?_ ?_
      | refine LeO.bind ?_ (fun _ => ?_)
theorem sluicewaylaw01_DerTexts.mono : ∀ a0 k, LeO (sluicewaylaw01_DerTexts.f k a0) (sluicewaylaw01_DerTexts.f (k + 1) a0) := by
  intro a0 k
  obtain ⟨ih0, ih1⟩ := sluicewaylaw01_DerTexts.mono_l k
  unfold sluicewaylaw01_DerTexts.f
  repeat' first
      | (with_reducible exact ih0 _ _ _ _)
      | (with_reducible exact ih1 _ _ _ _ _ _ _)
      | (with_reducible exact LeO.refl _)
      | (with_reducible exact LeO.none _)
      | (with_reducible refine LeO.ite ?_ ?_)
      | (with_reducible refine LeO.bind ?_ (fun _ => ?_))
      | exact ih0 _ _ _ _
      | exact ih1 _ _ _ _ _ _ _
      | exact LeO.none _
      | refine LeO.ite ?_ ?_
      | refine LeO.bind ?_ (fun _ => ?_)
theorem R_sets5b {W : World} {g base : Nat} {ok : Nat → Prop} {v : Value} {xs : List Int} {cells : Array Value} (h : Kd.R (Kd.int .u8) 5 W base ok v xs) (hb : W.heap[g]? = some (.cells cells 24 (0, 0))) (u0 u1 u2 u3 u4 : Value) : Kd.R (Kd.int .u8) 5 (sets5 W g u0 u1 u2 u3 u4) base (fun k => ok k ∧ k ≠ g) v xs :=
  have h1 := Kd.R_types h hb (fun q hq => by rintro rfl; exact absurd hq (by decide))
  Kd.R_far (Kd.R_far (Kd.R_far (Kd.R_far (Kd.R_far h1 (p := ⟨g, 0, none⟩) (fun k hk => hk.2) u0) (p := ⟨g, 1, none⟩) (fun k hk => hk.2) u1) (p := ⟨g, 2, none⟩) (fun k hk => hk.2) u2) (p := ⟨g, 3, none⟩) (fun k hk => hk.2) u3) (p := ⟨g, 4, none⟩) (fun k hk => hk.2) u4
set_option maxHeartbeats 8000000 in
set_option maxRecDepth 100000 in
theorem sluicewaylaw01_DerTexts.calls (k : Nat) (a0 : ByteArray) (r : Bool) (w : World) (h : sluicewaylaw01_DerTexts.f k a0 = some r) :
    Calls Try.prog 10 #[.string a0] w fun e w' => e = .returned (.bool r) ∧ Below w.heap.size w w' := by
  have hu24 := Try.underlying24
  have HB := Aside0.mk (Below.refl w.heap.size w)
  have H : ((sluicewaylaw01_shown.f).bind fun t132 => (if 0 ≤ (mn (a0.size : Int) 300) then (if (mn (a0.size : Int) 300) ≤ (a0.size : Int) then (sluicewaylaw01_DerTexts.l0 k (a0.extract 0 ((mn (a0.size : Int) 300) : Int).toNat) t132 true 0) else (none)) else (none))) = some r := h
  clear h
  replace H := Option.bind_eq_some_iff.mp H
  obtain ⟨t132, A20, H⟩ := H
  replace H : (if 0 ≤ (mn (a0.size : Int) 300) then (if (mn (a0.size : Int) 300) ≤ (a0.size : Int) then (sluicewaylaw01_DerTexts.l0 k (a0.extract 0 ((mn (a0.size : Int) 300) : Int).toNat) t132 true 0) else (none)) else (none)) = some r := H
  have A2 := Aside0.mk A20
  clear A20
  obtain ⟨ji3, hji3⟩ : ∃ j_ : Int, (mn (a0.size : Int) 300) = j_ := ⟨_, rfl⟩
  replace H : (if 0 ≤ (ji3) then (if (ji3) ≤ (a0.size : Int) then (sluicewaylaw01_DerTexts.l0 k (a0.extract 0 ((ji3) : Int).toNat) t132 true 0) else (none)) else (none)) = some r := by first | (rw [hji3] at H; exact H) | (simp only [hji3] at H ⊢; exact H)
  (try rw [hji3] at A2)
  (try (have hji3h : ji3 ≤ 300 := by (rw [← hji3]; unfold mn; (repeat' split) <;> omega)))
  (try (have hji3g : ji3 ≤ 64 := by omega))
  (try (have hji3l : 0 ≤ ji3 := by (rw [← hji3]; unfold mn; (repeat' split) <;> omega)))
  (try (have hji3m : 0 ≤ ji3 := by omega))
  have hji3_ : (if 300 < (a0.size : Int) then 300 else (a0.size : Int)) = ji3 := hji3
  by_cases c4 : 0 ≤ (ji3)
  · rw [if_pos c4] at H
    have c4b0 := eq_true c4
    have c4b1 : decide (0 ≤ (ji3)) = true := decide_eq_true c4
    clear c4
    by_cases c5 : (ji3) ≤ (a0.size : Int)
    · rw [if_pos c5] at H
      have c5b0 := eq_true c5
      have c5b1 : decide ((ji3) ≤ (a0.size : Int)) = true := decide_eq_true c5
      clear c5
      have H' := Aside0.mk H
      clear H
      go_enter Try.func10, Try.ntmps10
      go_wp2_with (first | ((with_reducible refine gate_callee (f := 14) rfl ?_); refine goesL_ (some 15) rfl rfl Try.func14 (by kernel_rfl) rfl #[] rfl (by (try simp only [List.map_toArray, List.map_cons, List.map_nil]); first | done | rfl | (simp only [List.length_drop, List.length_take]; rfl)) ?_; (with_reducible refine (sluicewaylaw01_shown.calls  t132 _ A2.out).mono ?_); rintro e w6 ⟨rfl, hb⟩; refine ⟨_, rfl, ?_⟩; have n0_ := Aside0.mk (below_step (by repeat (first | (with_reducible first | exact HB.out | apply below_alloc | apply pw_below_drewN | apply below_drew1) | exact HB.out)) hb); clear HB; have HB := n0_; clear n0_; (try clear hb); (try clear hb2); (try clear hk); (try clear hi)))
      generalize a0.extract 0 ((ji3) : Int).toNat = sx at *
      go_loopg [4, 5] k (fun kq v4 v5 w' => ∃ (x4_1 : Bool) (x5_1 : Int), v4 = .bool x4_1 ∧ v5 = .int .i64 x5_1 ∧ Aside0 (sluicewaylaw01_DerTexts.l0 kq sx t132 x4_1 x5_1 = some r) ∧ Aside0 (kq ≤ k) ∧ Aside0 (Below w.heap.size w w'))
      case atStart => exact ⟨(true), (0), (by first | rfl | (simp; done) | (simp [*]; done)), (by first | rfl | (simp; done) | (simp [*]; done)), H', ⟨Nat.le_refl _⟩, ⟨by repeat (first | (with_reducible first | exact HB.out | apply below_alloc | apply pw_below_drewN | apply below_drew1) | exact HB.out)⟩⟩
      case round =>
        clear H'
        try clear c1
        try clear p2
        try clear c4
        try clear c4b0
        try clear c4b1
        try clear c5
        try clear c5b0
        try clear c5b1
        obtain ⟨x4_1, x5_1, rfl, rfl, HA, HK1, HB⟩ := hrel
        cases gk with
        | zero => exact absurd HA.out (by simp [sluicewaylaw01_DerTexts.l0])
        | succ k1 =>
          have H := HA.out
          clear HA
          simp only [sluicewaylaw01_DerTexts.l0] at H
          by_cases c7 : x5_1 < (sx.size : Int)
          · rw [if_pos c7] at H
            have c7b0 : decide (x5_1 < (sx.size : Int)) = true := decide_eq_true c7
            clear c7
            by_cases c8 : x4_1 = true
            · subst c8
              have H1 : (if 0 ≤ x5_1 then (if (bt sx x5_1) ≥ 32 then (sluicewaylaw01_DerTexts.l0 k1 sx t132 (decide ((bt sx x5_1) ≤ 126)) (wrap64 (x5_1 + 1))) else (sluicewaylaw01_DerTexts.l0 k1 sx t132 false (wrap64 (x5_1 + 1)))) else (none)) = some r := by rw [if_pos rfl] at H; exact H
              clear H
              have H := H1
              clear H1
              by_cases c9 : 0 ≤ x5_1
              · rw [if_pos c9] at H
                have c9b0 : decide (0 ≤ x5_1) = true := decide_eq_true c9
                clear c9
                by_cases c11 : (bt sx x5_1) ≥ 32
                · rw [if_pos c11] at H
                  have c11b0 : decide (32 ≤ (bt sx x5_1)) = true := decide_eq_true c11
                  clear c11
                  have H' := Aside0.mk H
                  clear H
                  have p10 : 0 ≤ (x5_1 : Int) := of_decide_eq_true (by first | (with_reducible assumption) | assumption)
                  have q10 : x5_1 < (sx.size : Int) := of_decide_eq_true (by first | (with_reducible assumption) | assumption)
                  have hx10 := bt_at sx x5_1
                  replace p10 := eq_true p10
                  replace q10 := eq_true q10
                  have p12 : 0 ≤ (x5_1 : Int) := of_decide_eq_true (by first | (with_reducible assumption) | assumption)
                  have q12 : x5_1 < (sx.size : Int) := of_decide_eq_true (by first | (with_reducible assumption) | assumption)
                  have hx12 := bt_at sx x5_1
                  replace p12 := eq_true p12
                  replace q12 := eq_true q12
                  go_wp2
                  go_roundg k1
                  case measure => have := HK1.out; omega
                  case rel => exact ⟨(decide ((bt sx x5_1) ≤ 126)), (wrap64 (x5_1 + 1)), (by first | rfl | (simp; done) | (simp only [← hji3] <;> (first | rfl | simp)) | (simp [*]; done)), (by first | rfl | (simp; done) | (simp [*]; done)), H', ⟨by have := HK1.out; omega⟩, ⟨by repeat (first | (with_reducible first | exact HB.out | apply below_alloc | apply pw_below_drewN | apply below_drew1) | exact HB.out)⟩⟩
                · rw [if_neg c11] at H
                  have c11b0 : decide (32 ≤ (bt sx x5_1)) = false := decide_eq_false c11
                  clear c11
                  have H' := Aside0.mk H
                  clear H
                  have p10 : 0 ≤ (x5_1 : Int) := of_decide_eq_true (by first | (with_reducible assumption) | assumption)
                  have q10 : x5_1 < (sx.size : Int) := of_decide_eq_true (by first | (with_reducible assumption) | assumption)
                  have hx10 := bt_at sx x5_1
                  replace p10 := eq_true p10
                  replace q10 := eq_true q10
                  go_wp2
                  go_roundg k1
                  case measure => have := HK1.out; omega
                  case rel => exact ⟨(false), (wrap64 (x5_1 + 1)), (by first | rfl | (simp; done) | (simp [*]; done)), (by first | rfl | (simp; done) | (simp [*]; done)), H', ⟨by have := HK1.out; omega⟩, ⟨by repeat (first | (with_reducible first | exact HB.out | apply below_alloc | apply pw_below_drewN | apply below_drew1) | exact HB.out)⟩⟩
              · rw [if_neg c9] at H
                exact absurd H (by simp)
            · replace c8 := Bool.eq_false_iff.mpr c8
              subst c8
              have H1 : (sluicewaylaw01_DerTexts.l0 k1 sx t132 false (wrap64 (x5_1 + 1))) = some r := by rw [if_neg (show ¬ (false = true) by decide)] at H; exact H
              clear H
              have H := H1
              clear H1
              have H' := Aside0.mk H
              clear H
              go_wp2
              go_roundg k1
              case measure => have := HK1.out; omega
              case rel => exact ⟨(false), (wrap64 (x5_1 + 1)), (by first | rfl | (simp; done) | (simp [*]; done)), (by first | rfl | (simp; done) | (simp [*]; done)), H', ⟨by have := HK1.out; omega⟩, ⟨by repeat (first | (with_reducible first | exact HB.out | apply below_alloc | apply pw_below_drewN | apply below_drew1) | exact HB.out)⟩⟩
          · rw [if_neg c7] at H
            have c7b0 : decide (x5_1 < (sx.size : Int)) = false := decide_eq_false c7
            clear c7
            replace H := Option.bind_eq_some_iff.mp H
            obtain ⟨⟨t133, t136⟩, A130, H⟩ := H
            replace H : ((der_Bytes.f 3 0 sx 0 ([] : List (S24))).bind fun bt137 => ((der_Of.f t133).bind fun bt141 => (if t136 = 0 then (if bt141.2.2.2.2.2 = 0 then (if bt141.1 = 2 then (if bt141.2.2.1.toList = sx.toList then (sluicewaylaw01_DerTexts.j1 k1 sx t132 x4_1 t133 bt137.1 bt137.2 ((bt137.2 == 0) != x4_1)) else (sluicewaylaw01_DerTexts.j1 k1 sx t132 x4_1 t133 bt137.1 bt137.2 true)) else (sluicewaylaw01_DerTexts.j1 k1 sx t132 x4_1 t133 bt137.1 bt137.2 true)) else (sluicewaylaw01_DerTexts.j1 k1 sx t132 x4_1 t133 bt137.1 bt137.2 true)) else (sluicewaylaw01_DerTexts.j1 k1 sx t132 x4_1 t133 bt137.1 bt137.2 true)))) = some r := H
            have A13 := Aside0.mk A130
            clear A130
            replace H := Option.bind_eq_some_iff.mp H
            obtain ⟨⟨t137, t140⟩, A140, H⟩ := H
            replace H : ((der_Of.f t133).bind fun bt141 => (if t136 = 0 then (if bt141.2.2.2.2.2 = 0 then (if bt141.1 = 2 then (if bt141.2.2.1.toList = sx.toList then (sluicewaylaw01_DerTexts.j1 k1 sx t132 x4_1 t133 t137 t140 ((t140 == 0) != x4_1)) else (sluicewaylaw01_DerTexts.j1 k1 sx t132 x4_1 t133 t137 t140 true)) else (sluicewaylaw01_DerTexts.j1 k1 sx t132 x4_1 t133 t137 t140 true)) else (sluicewaylaw01_DerTexts.j1 k1 sx t132 x4_1 t133 t137 t140 true)) else (sluicewaylaw01_DerTexts.j1 k1 sx t132 x4_1 t133 t137 t140 true))) = some r := H
            have A14 := Aside0.mk A140
            clear A140
            replace H := Option.bind_eq_some_iff.mp H
            obtain ⟨⟨t141, t142, t143, t144, t145, t148⟩, A150, H⟩ := H
            replace H : (if t136 = 0 then (if t148 = 0 then (if t141 = 2 then (if t143.toList = sx.toList then (sluicewaylaw01_DerTexts.j1 k1 sx t132 x4_1 t133 t137 t140 ((t140 == 0) != x4_1)) else (sluicewaylaw01_DerTexts.j1 k1 sx t132 x4_1 t133 t137 t140 true)) else (sluicewaylaw01_DerTexts.j1 k1 sx t132 x4_1 t133 t137 t140 true)) else (sluicewaylaw01_DerTexts.j1 k1 sx t132 x4_1 t133 t137 t140 true)) else (sluicewaylaw01_DerTexts.j1 k1 sx t132 x4_1 t133 t137 t140 true)) = some r := H
            have A15 := Aside0.mk A150
            clear A150
            have HC16 := Aside0.mk H
            clear H
            go_upto_region 11 with (first | ((with_reducible refine gate_callee (f := 16) rfl ?_); refine goesL_ (some 43) rfl rfl Try.func16 (by kernel_rfl) rfl #[.agg #[.int .i64 2, .int .i64 0, .string sx, .int .i64 0, .slice none 0 0]] rfl (by (try simp only [List.map_toArray, List.map_cons, List.map_nil]); first | done | (simp only [hji3]; rfl) | rfl | (simp only [List.length_drop, List.length_take]; rfl)) ?_; (refine (der_Bytes.calls 2 0 sx 0 _ _ ([] : List (S24)) t133 t136 _ ?side1 ?side2 A13.out).mono ?_); (case side1 => exact Kd.C_nil _ _); (case side2 => exact Nat.le_refl _); rintro e w17 ⟨v134, rfl, ho0, hb⟩; refine ⟨_, rfl, ?_⟩; have n0_ := Aside0.mk (Kd.R_lower ho0 (below_size (by repeat (first | (with_reducible first | exact HB.out | apply below_alloc | apply pw_below_drewN | apply below_drew1) | exact HB.out)))); have n1_ := Aside0.mk (below_step (by repeat (first | (with_reducible first | exact HB.out | apply below_alloc | apply pw_below_drewN | apply below_drew1) | exact HB.out)) hb); clear HB; have HO135 := n0_; have HB := n1_; clear n0_ n1_; (try clear hb); (try clear hb2); (try clear hk); (try clear hi); (try clear ho0)) | ((with_reducible refine gate_callee (f := 16) rfl ?_); refine goesL_ (some 49) rfl rfl Try.func16 (by kernel_rfl) rfl #[.agg #[.int .i64 3, .int .i64 0, .string sx, .int .i64 0, .slice none 0 0]] rfl (by (try simp only [List.map_toArray, List.map_cons, List.map_nil]); first | done | (simp only [hji3]; rfl) | rfl | (simp only [List.length_drop, List.length_take]; rfl)) ?_; (refine (der_Bytes.calls 3 0 sx 0 _ _ ([] : List (S24)) t137 t140 _ ?side1 ?side2 A14.out).mono ?_); (case side1 => exact Kd.C_nil _ _); (case side2 => exact Nat.le_refl _); rintro e w18 ⟨v138, rfl, ho0, hb⟩; refine ⟨_, rfl, ?_⟩; have n0_ := Aside0.mk (Kd.R_elder' (by (with_reducible repeat (first | apply Kd.R_alloc | apply Kd.R_drewN | apply Kd.R_drew)); exact HO135.out) (Kd.R_base ho0) hb); have n1_ := Aside0.mk (Kd.R_lower (Kd.R_new' ho0 (Kd.R_lt (by (with_reducible repeat (first | apply Kd.R_alloc | apply Kd.R_drewN | apply Kd.R_drew)); exact HO135.out))) (below_size (by repeat (first | (with_reducible first | exact HB.out | apply below_alloc | apply pw_below_drewN | apply below_drew1) | exact HB.out)))); have n2_ := Aside0.mk (below_step (by repeat (first | (with_reducible first | exact HB.out | apply below_alloc | apply pw_below_drewN | apply below_drew1) | exact HB.out)) hb); clear HO135; clear HB; have HO135 := n0_; have HO139 := n1_; have HB := n2_; clear n0_ n1_ n2_; (try clear hb); (try clear hb2); (try clear hk); (try clear hi); (try clear ho0); obtain ⟨Ao19, co19, eo19⟩ := Kd.R_slice HO135.out; subst eo19) | ((with_reducible refine gate_callee (f := 22) rfl ?_); refine goesL_ (some 54) rfl rfl Try.func22 (by kernel_rfl) rfl #[.slice Ao19 t133.length co19] rfl (by (try simp only [List.map_toArray, List.map_cons, List.map_nil]); first | done | rfl | (simp only [List.length_drop, List.length_take]; rfl)) ?_; (with_reducible refine (der_Of.calls _ _ t133 t141 t142 t143 t144 t145 t148 _ ?side1 ?side2 A15.out).mono ?_); (case side1 => repeat (first | exact (Kd.R_reads' HO135.out).2.2 | (with_reducible refine Kd.C_alloc ?_ _) | (with_reducible refine Kd.C_drewN ?_ _) | (with_reducible refine Kd.C_drew ?_))); (case side2 => exact (Kd.R_reads' HO135.out).2.1); rintro e w20 ⟨v146, rfl, ho0, hb⟩; refine ⟨_, rfl, ?_⟩; have n0_ := Aside0.mk (Kd.R_below (by (with_reducible repeat (first | apply Kd.R_alloc | apply Kd.R_drewN | apply Kd.R_drew)); exact HO135.out) hb); have n1_ := Aside0.mk (Kd.R_below (by (with_reducible repeat (first | apply Kd.R_alloc | apply Kd.R_drewN | apply Kd.R_drew)); exact HO139.out) hb); have n2_ := Aside0.mk (Kd.R_lower ho0 (below_size (by repeat (first | (with_reducible first | exact HB.out | apply below_alloc | apply pw_below_drewN | apply below_drew1) | exact HB.out)))); have n3_ := Aside0.mk (below_step (by repeat (first | (with_reducible first | exact HB.out | apply below_alloc | apply pw_below_drewN | apply below_drew1) | exact HB.out)) hb); clear HO135; clear HO139; clear HB; have HO135 := n0_; have HO139 := n1_; have HO147 := n2_; have HB := n3_; clear n0_ n1_ n2_ n3_; (try clear hb); (try clear hb2); (try clear hk); (try clear hi); (try clear ho0)) | ((with_reducible refine gate_dst (N := 10) rfl ?_); refine box_event ?hg (N := 10) ?hd (cs := #[.int .i64 0, .int .i64 0, .string (⟨#[]⟩ : ByteArray), .int .i64 0, .slice none 0 0]) (t := 24) ?hr ?_; (case hd => rfl); (case hg => rfl); (case hr => first | (go_simp; done) | (go_simp; rfl)); intro gb149 hg w21 hbox hb; have n0_ := Aside0.mk (Kd.R_below (by (with_reducible repeat (first | apply Kd.R_alloc | apply Kd.R_drewN | apply Kd.R_drew)); exact HO135.out) hb); have n1_ := Aside0.mk (Kd.R_below (by (with_reducible repeat (first | apply Kd.R_alloc | apply Kd.R_drewN | apply Kd.R_drew)); exact HO139.out) hb); have n2_ := Aside0.mk (Kd.R_below (Kd.R_elderB (by (with_reducible repeat (first | apply Kd.R_alloc | apply Kd.R_drewN | apply Kd.R_drew)); exact HO147.out) gb149 (Nat.le_of_eq hg.symm)) hb); have n3_ := Aside0.mk (below_step (by repeat (first | (with_reducible first | exact HB.out | apply below_alloc | apply pw_below_drewN | apply below_drew1) | exact HB.out)) hb); have n4_ := Aside0.mk (hbox); have n5_ := Aside0.mk ((by rw [hg]; exact (below_size (by repeat (first | (with_reducible first | exact HB.out | apply below_alloc | apply pw_below_drewN | apply below_drew1) | exact HB.out))) : w.heap.size ≤ gb149)); have n6_ := Aside0.mk ((by rw [hg]; exact (below_size (by repeat (first | (with_reducible first | exact HB.out | apply below_alloc | apply pw_below_drewN | apply below_drew1) | exact HB.out))) : w.heap.size ≤ gb149)); clear HO135; clear HO139; clear HO147; clear HB; have HO135 := n0_; have HO139 := n1_; have HO147 := n2_; have HB := n3_; have BK149 := n4_; have GW149 := n5_; have GE149 := n6_; clear n0_ n1_ n2_ n3_ n4_ n5_ n6_; clear hb hbox hg; have hcz22_0 : w21.cell? ⟨gb149, 0, none⟩ = some (.int .i64 0) := (blk_cell BK149.out 0).trans rfl; have hcz22_1 : w21.cell? ⟨gb149, 1, none⟩ = some (.int .i64 0) := (blk_cell BK149.out 1).trans rfl; have hcz22_2 : w21.cell? ⟨gb149, 2, none⟩ = some (.string (⟨#[]⟩ : ByteArray)) := (blk_cell BK149.out 2).trans rfl; have hcz22_3 : w21.cell? ⟨gb149, 3, none⟩ = some (.int .i64 0) := (blk_cell BK149.out 3).trans rfl; have hcz22_4 : w21.cell? ⟨gb149, 4, none⟩ = some (.slice none 0 0) := (blk_cell BK149.out 4).trans rfl; have hfz22_0 := blk_frozen BK149.out 0; have hfz22_1 := blk_frozen BK149.out 1; have hfz22_2 := blk_frozen BK149.out 2; have hfz22_3 := blk_frozen BK149.out 3; have hfz22_4 := blk_frozen BK149.out 4; obtain ⟨Ao23, co23, eo23⟩ := Kd.R_slice HO147.out; subst eo23))
            (try simp only [Act.put, List.setIfInBounds_toArray, List.set_cons_zero, List.set_cons_succ])
            go_cut [79] (fun v79 wc => ∃ (kq : Nat) (x79_15 : Bool), v79 = .bool x79_15 ∧ Aside0 (sluicewaylaw01_DerTexts.j1 kq sx t132 x4_1 t133 t137 t140 x79_15 = some r) ∧ Aside0 (kq ≤ k1) ∧ Aside0 (Kd.R (Kd.int .u8) 5 wc w.heap.size (fun k_ => some k_ ≠ (v138 : Value).ownBlock) (.slice Ao19 t133.length co19) t133) ∧ Aside0 (Kd.R (Kd.int .u8) 5 wc w.heap.size (fun k_ => some k_ ≠ ((.slice Ao19 t133.length co19) : Value).ownBlock) v138 t137) ∧ Aside0 (Kd.R k24 24 wc w.heap.size (fun k_ => k_ ≠ gb149) (.slice Ao23 t145.length co23) t145) ∧ Aside0 (wc.heap[gb149]? = some (.cells #[.int .i64 t141, .int .i64 t142, .string t143, .int .i64 t144, (.slice Ao23 t145.length co23)] 24 (0, 0))) ∧ Aside0 (Below w.heap.size w wc))
            case first =>
              have H := HC16.out
              clear HC16
              by_cases c24 : t136 = 0
              · rw [if_pos c24] at H
                have c24b0 : (t136 == 0) = true := beq_iff_eq.mpr c24
                have c24b1 : (t136 != 0) = false := bne_eq_false_iff_eq.mpr c24
                clear c24
                (first | rw [c24b0] | (simp only [i64_w, i32_w]; rw [c24b0]) | skip)
                by_cases c25 : t148 = 0
                · rw [if_pos c25] at H
                  have c25b0 : (t148 == 0) = true := beq_iff_eq.mpr c25
                  have c25b1 : (t148 != 0) = false := bne_eq_false_iff_eq.mpr c25
                  clear c25
                  by_cases c26 : t141 = 2
                  · rw [if_pos c26] at H
                    have c26b0 : (t141 == 2) = true := beq_iff_eq.mpr c26
                    have c26b1 : (t141 != 2) = false := bne_eq_false_iff_eq.mpr c26
                    clear c26
                    by_cases c27 : t143.toList = sx.toList
                    · rw [if_pos c27] at H
                      have c27b0 : (t143.toList == sx.toList) = true := beq_iff_eq.mpr c27
                      have c27b1 : (t143.toList != sx.toList) = false := bne_eq_false_iff_eq.mpr c27
                      clear c27
                      have H' := Aside0.mk H
                      clear H
                      have hcz28_0 : w21.cell? ⟨gb149, 0, none⟩ = some (.int .i64 0) := (blk_cell BK149.out 0).trans rfl
                      have hcz28_1 : w21.cell? ⟨gb149, 1, none⟩ = some (.int .i64 0) := (blk_cell BK149.out 1).trans rfl
                      have hcz28_2 : w21.cell? ⟨gb149, 2, none⟩ = some (.string (⟨#[]⟩ : ByteArray)) := (blk_cell BK149.out 2).trans rfl
                      have hcz28_3 : w21.cell? ⟨gb149, 3, none⟩ = some (.int .i64 0) := (blk_cell BK149.out 3).trans rfl
                      have hcz28_4 : w21.cell? ⟨gb149, 4, none⟩ = some (.slice none 0 0) := (blk_cell BK149.out 4).trans rfl
                      have hfz28_0 := blk_frozen BK149.out 0
                      have hfz28_1 := blk_frozen BK149.out 1
                      have hfz28_2 := blk_frozen BK149.out 2
                      have hfz28_3 := blk_frozen BK149.out 3
                      have hfz28_4 := blk_frozen BK149.out 4
                      go_wp2
                      go_meet
                      case rel => exact ⟨_, (((t140 == 0) != x4_1)), (by first | rfl | (simp; done) | (simp [*]; done)), H', ⟨by have := HK1.out; first | omega | exact Nat.le_refl _⟩, ⟨by (with_reducible repeat (first | apply Kd.R_alloc | apply Kd.R_drewN | apply Kd.R_drew)); exact Kd.R_mono (Kd.R_far (p := ⟨gb149, 4, none⟩) (Kd.R_far (p := ⟨gb149, 3, none⟩) (Kd.R_far (p := ⟨gb149, 2, none⟩) (Kd.R_far (p := ⟨gb149, 1, none⟩) (Kd.R_far (p := ⟨gb149, 0, none⟩) (Kd.R_types HO135.out BK149.out (by decide)) (fun _ hk => hk.2) (.int .i64 t141)) (fun _ hk => hk.2) (.int .i64 t142)) (fun _ hk => hk.2) (.string t143)) (fun _ hk => hk.2) (.int .i64 t144)) (fun _ hk => hk.2) (.slice Ao23 t145.length co23)) (fun _ hk => hk.1.2)⟩, ⟨by (with_reducible repeat (first | apply Kd.R_alloc | apply Kd.R_drewN | apply Kd.R_drew)); exact Kd.R_mono (Kd.R_far (p := ⟨gb149, 4, none⟩) (Kd.R_far (p := ⟨gb149, 3, none⟩) (Kd.R_far (p := ⟨gb149, 2, none⟩) (Kd.R_far (p := ⟨gb149, 1, none⟩) (Kd.R_far (p := ⟨gb149, 0, none⟩) (Kd.R_types HO139.out BK149.out (by decide)) (fun _ hk => hk.2) (.int .i64 t141)) (fun _ hk => hk.2) (.int .i64 t142)) (fun _ hk => hk.2) (.string t143)) (fun _ hk => hk.2) (.int .i64 t144)) (fun _ hk => hk.2) (.slice Ao23 t145.length co23)) (fun _ hk => hk.1.2)⟩, ⟨by (with_reducible repeat (first | apply Kd.R_alloc | apply Kd.R_drewN | apply Kd.R_drew)); exact Kd.R_mono (Kd.R_far (p := ⟨gb149, 4, none⟩) (Kd.R_far (p := ⟨gb149, 3, none⟩) (Kd.R_far (p := ⟨gb149, 2, none⟩) (Kd.R_far (p := ⟨gb149, 1, none⟩) (Kd.R_far (p := ⟨gb149, 0, none⟩) (Kd.R_mono HO147.out (fun k_ hk => (⟨hk, hk.2⟩ : _ ∧ k_ ≠ gb149))) (fun _ hk => hk.2) (.int .i64 t141)) (fun _ hk => hk.2) (.int .i64 t142)) (fun _ hk => hk.2) (.string t143)) (fun _ hk => hk.2) (.int .i64 t144)) (fun _ hk => hk.2) (.slice Ao23 t145.length co23)) (fun _ hk => hk.1.2)⟩, ⟨by (with_reducible repeat (first | refine blk_drewN ?_ _ | refine blk_drew ?_ | refine blk_alloc ?_ _)); refine blk_put (cs := #[.int .i64 t141, .int .i64 t142, .string t143, .int .i64 t144, .slice none 0 0]) ?_ 4 _ rfl; (with_reducible repeat (first | refine blk_drewN ?_ _ | refine blk_drew ?_ | refine blk_alloc ?_ _)); refine blk_put (cs := #[.int .i64 t141, .int .i64 t142, .string t143, .int .i64 0, .slice none 0 0]) ?_ 3 _ rfl; (with_reducible repeat (first | refine blk_drewN ?_ _ | refine blk_drew ?_ | refine blk_alloc ?_ _)); refine blk_put (cs := #[.int .i64 t141, .int .i64 t142, .string (⟨#[]⟩ : ByteArray), .int .i64 0, .slice none 0 0]) ?_ 2 _ rfl; (with_reducible repeat (first | refine blk_drewN ?_ _ | refine blk_drew ?_ | refine blk_alloc ?_ _)); refine blk_put (cs := #[.int .i64 t141, .int .i64 0, .string (⟨#[]⟩ : ByteArray), .int .i64 0, .slice none 0 0]) ?_ 1 _ rfl; (with_reducible repeat (first | refine blk_drewN ?_ _ | refine blk_drew ?_ | refine blk_alloc ?_ _)); refine blk_put (cs := #[.int .i64 0, .int .i64 0, .string (⟨#[]⟩ : ByteArray), .int .i64 0, .slice none 0 0]) ?_ 0 _ rfl; (with_reducible repeat (first | refine blk_drewN ?_ _ | refine blk_drew ?_ | refine blk_alloc ?_ _)); exact BK149.out⟩, ⟨by repeat (first | (with_reducible first | exact HB.out | apply below_alloc | apply pw_below_drewN | apply below_drew1 | refine below_set ?_ GE149.out) | exact HB.out)⟩⟩
                    · rw [if_neg c27] at H
                      have c27b0 : (t143.toList == sx.toList) = false := beq_eq_false_iff_ne.mpr c27
                      have c27b1 : (t143.toList != sx.toList) = true := bne_iff_ne.mpr c27
                      have H' := Aside0.mk H
                      clear H
                      have hcz29_0 : w21.cell? ⟨gb149, 0, none⟩ = some (.int .i64 0) := (blk_cell BK149.out 0).trans rfl
                      have hcz29_1 : w21.cell? ⟨gb149, 1, none⟩ = some (.int .i64 0) := (blk_cell BK149.out 1).trans rfl
                      have hcz29_2 : w21.cell? ⟨gb149, 2, none⟩ = some (.string (⟨#[]⟩ : ByteArray)) := (blk_cell BK149.out 2).trans rfl
                      have hcz29_3 : w21.cell? ⟨gb149, 3, none⟩ = some (.int .i64 0) := (blk_cell BK149.out 3).trans rfl
                      have hcz29_4 : w21.cell? ⟨gb149, 4, none⟩ = some (.slice none 0 0) := (blk_cell BK149.out 4).trans rfl
                      have hfz29_0 := blk_frozen BK149.out 0
                      have hfz29_1 := blk_frozen BK149.out 1
                      have hfz29_2 := blk_frozen BK149.out 2
                      have hfz29_3 := blk_frozen BK149.out 3
                      have hfz29_4 := blk_frozen BK149.out 4
                      go_wp2
                      go_meet
                      case rel => exact ⟨_, (true), (by first | rfl | (simp; done) | (simp [*]; done)), H', ⟨by have := HK1.out; first | omega | exact Nat.le_refl _⟩, ⟨by (with_reducible repeat (first | apply Kd.R_alloc | apply Kd.R_drewN | apply Kd.R_drew)); exact Kd.R_mono (Kd.R_far (p := ⟨gb149, 4, none⟩) (Kd.R_far (p := ⟨gb149, 3, none⟩) (Kd.R_far (p := ⟨gb149, 2, none⟩) (Kd.R_far (p := ⟨gb149, 1, none⟩) (Kd.R_far (p := ⟨gb149, 0, none⟩) (Kd.R_types HO135.out BK149.out (by decide)) (fun _ hk => hk.2) (.int .i64 t141)) (fun _ hk => hk.2) (.int .i64 t142)) (fun _ hk => hk.2) (.string t143)) (fun _ hk => hk.2) (.int .i64 t144)) (fun _ hk => hk.2) (.slice Ao23 t145.length co23)) (fun _ hk => hk.1.2)⟩, ⟨by (with_reducible repeat (first | apply Kd.R_alloc | apply Kd.R_drewN | apply Kd.R_drew)); exact Kd.R_mono (Kd.R_far (p := ⟨gb149, 4, none⟩) (Kd.R_far (p := ⟨gb149, 3, none⟩) (Kd.R_far (p := ⟨gb149, 2, none⟩) (Kd.R_far (p := ⟨gb149, 1, none⟩) (Kd.R_far (p := ⟨gb149, 0, none⟩) (Kd.R_types HO139.out BK149.out (by decide)) (fun _ hk => hk.2) (.int .i64 t141)) (fun _ hk => hk.2) (.int .i64 t142)) (fun _ hk => hk.2) (.string t143)) (fun _ hk => hk.2) (.int .i64 t144)) (fun _ hk => hk.2) (.slice Ao23 t145.length co23)) (fun _ hk => hk.1.2)⟩, ⟨by (with_reducible repeat (first | apply Kd.R_alloc | apply Kd.R_drewN | apply Kd.R_drew)); exact Kd.R_mono (Kd.R_far (p := ⟨gb149, 4, none⟩) (Kd.R_far (p := ⟨gb149, 3, none⟩) (Kd.R_far (p := ⟨gb149, 2, none⟩) (Kd.R_far (p := ⟨gb149, 1, none⟩) (Kd.R_far (p := ⟨gb149, 0, none⟩) (Kd.R_mono HO147.out (fun k_ hk => (⟨hk, hk.2⟩ : _ ∧ k_ ≠ gb149))) (fun _ hk => hk.2) (.int .i64 t141)) (fun _ hk => hk.2) (.int .i64 t142)) (fun _ hk => hk.2) (.string t143)) (fun _ hk => hk.2) (.int .i64 t144)) (fun _ hk => hk.2) (.slice Ao23 t145.length co23)) (fun _ hk => hk.1.2)⟩, ⟨by (with_reducible repeat (first | refine blk_drewN ?_ _ | refine blk_drew ?_ | refine blk_alloc ?_ _)); refine blk_put (cs := #[.int .i64 t141, .int .i64 t142, .string t143, .int .i64 t144, .slice none 0 0]) ?_ 4 _ rfl; (with_reducible repeat (first | refine blk_drewN ?_ _ | refine blk_drew ?_ | refine blk_alloc ?_ _)); refine blk_put (cs := #[.int .i64 t141, .int .i64 t142, .string t143, .int .i64 0, .slice none 0 0]) ?_ 3 _ rfl; (with_reducible repeat (first | refine blk_drewN ?_ _ | refine blk_drew ?_ | refine blk_alloc ?_ _)); refine blk_put (cs := #[.int .i64 t141, .int .i64 t142, .string (⟨#[]⟩ : ByteArray), .int .i64 0, .slice none 0 0]) ?_ 2 _ rfl; (with_reducible repeat (first | refine blk_drewN ?_ _ | refine blk_drew ?_ | refine blk_alloc ?_ _)); refine blk_put (cs := #[.int .i64 t141, .int .i64 0, .string (⟨#[]⟩ : ByteArray), .int .i64 0, .slice none 0 0]) ?_ 1 _ rfl; (with_reducible repeat (first | refine blk_drewN ?_ _ | refine blk_drew ?_ | refine blk_alloc ?_ _)); refine blk_put (cs := #[.int .i64 0, .int .i64 0, .string (⟨#[]⟩ : ByteArray), .int .i64 0, .slice none 0 0]) ?_ 0 _ rfl; (with_reducible repeat (first | refine blk_drewN ?_ _ | refine blk_drew ?_ | refine blk_alloc ?_ _)); exact BK149.out⟩, ⟨by repeat (first | (with_reducible first | exact HB.out | apply below_alloc | apply pw_below_drewN | apply below_drew1 | refine below_set ?_ GE149.out) | exact HB.out)⟩⟩
                  · rw [if_neg c26] at H
                    have c26b0 : (t141 == 2) = false := beq_eq_false_iff_ne.mpr c26
                    have c26b1 : (t141 != 2) = true := bne_iff_ne.mpr c26
                    have H' := Aside0.mk H
                    clear H
                    have hcz30_0 : w21.cell? ⟨gb149, 0, none⟩ = some (.int .i64 0) := (blk_cell BK149.out 0).trans rfl
                    have hcz30_1 : w21.cell? ⟨gb149, 1, none⟩ = some (.int .i64 0) := (blk_cell BK149.out 1).trans rfl
                    have hcz30_2 : w21.cell? ⟨gb149, 2, none⟩ = some (.string (⟨#[]⟩ : ByteArray)) := (blk_cell BK149.out 2).trans rfl
                    have hcz30_3 : w21.cell? ⟨gb149, 3, none⟩ = some (.int .i64 0) := (blk_cell BK149.out 3).trans rfl
                    have hcz30_4 : w21.cell? ⟨gb149, 4, none⟩ = some (.slice none 0 0) := (blk_cell BK149.out 4).trans rfl
                    have hfz30_0 := blk_frozen BK149.out 0
                    have hfz30_1 := blk_frozen BK149.out 1
                    have hfz30_2 := blk_frozen BK149.out 2
                    have hfz30_3 := blk_frozen BK149.out 3
                    have hfz30_4 := blk_frozen BK149.out 4
                    go_wp2
                    go_meet
                    case rel => exact ⟨_, (true), (by first | rfl | (simp; done) | (simp [*]; done)), H', ⟨by have := HK1.out; first | omega | exact Nat.le_refl _⟩, ⟨by (with_reducible repeat (first | apply Kd.R_alloc | apply Kd.R_drewN | apply Kd.R_drew)); exact Kd.R_mono (Kd.R_far (p := ⟨gb149, 4, none⟩) (Kd.R_far (p := ⟨gb149, 3, none⟩) (Kd.R_far (p := ⟨gb149, 2, none⟩) (Kd.R_far (p := ⟨gb149, 1, none⟩) (Kd.R_far (p := ⟨gb149, 0, none⟩) (Kd.R_types HO135.out BK149.out (by decide)) (fun _ hk => hk.2) (.int .i64 t141)) (fun _ hk => hk.2) (.int .i64 t142)) (fun _ hk => hk.2) (.string t143)) (fun _ hk => hk.2) (.int .i64 t144)) (fun _ hk => hk.2) (.slice Ao23 t145.length co23)) (fun _ hk => hk.1.2)⟩, ⟨by (with_reducible repeat (first | apply Kd.R_alloc | apply Kd.R_drewN | apply Kd.R_drew)); exact Kd.R_mono (Kd.R_far (p := ⟨gb149, 4, none⟩) (Kd.R_far (p := ⟨gb149, 3, none⟩) (Kd.R_far (p := ⟨gb149, 2, none⟩) (Kd.R_far (p := ⟨gb149, 1, none⟩) (Kd.R_far (p := ⟨gb149, 0, none⟩) (Kd.R_types HO139.out BK149.out (by decide)) (fun _ hk => hk.2) (.int .i64 t141)) (fun _ hk => hk.2) (.int .i64 t142)) (fun _ hk => hk.2) (.string t143)) (fun _ hk => hk.2) (.int .i64 t144)) (fun _ hk => hk.2) (.slice Ao23 t145.length co23)) (fun _ hk => hk.1.2)⟩, ⟨by (with_reducible repeat (first | apply Kd.R_alloc | apply Kd.R_drewN | apply Kd.R_drew)); exact Kd.R_mono (Kd.R_far (p := ⟨gb149, 4, none⟩) (Kd.R_far (p := ⟨gb149, 3, none⟩) (Kd.R_far (p := ⟨gb149, 2, none⟩) (Kd.R_far (p := ⟨gb149, 1, none⟩) (Kd.R_far (p := ⟨gb149, 0, none⟩) (Kd.R_mono HO147.out (fun k_ hk => (⟨hk, hk.2⟩ : _ ∧ k_ ≠ gb149))) (fun _ hk => hk.2) (.int .i64 t141)) (fun _ hk => hk.2) (.int .i64 t142)) (fun _ hk => hk.2) (.string t143)) (fun _ hk => hk.2) (.int .i64 t144)) (fun _ hk => hk.2) (.slice Ao23 t145.length co23)) (fun _ hk => hk.1.2)⟩, ⟨by (with_reducible repeat (first | refine blk_drewN ?_ _ | refine blk_drew ?_ | refine blk_alloc ?_ _)); refine blk_put (cs := #[.int .i64 t141, .int .i64 t142, .string t143, .int .i64 t144, .slice none 0 0]) ?_ 4 _ rfl; (with_reducible repeat (first | refine blk_drewN ?_ _ | refine blk_drew ?_ | refine blk_alloc ?_ _)); refine blk_put (cs := #[.int .i64 t141, .int .i64 t142, .string t143, .int .i64 0, .slice none 0 0]) ?_ 3 _ rfl; (with_reducible repeat (first | refine blk_drewN ?_ _ | refine blk_drew ?_ | refine blk_alloc ?_ _)); refine blk_put (cs := #[.int .i64 t141, .int .i64 t142, .string (⟨#[]⟩ : ByteArray), .int .i64 0, .slice none 0 0]) ?_ 2 _ rfl; (with_reducible repeat (first | refine blk_drewN ?_ _ | refine blk_drew ?_ | refine blk_alloc ?_ _)); refine blk_put (cs := #[.int .i64 t141, .int .i64 0, .string (⟨#[]⟩ : ByteArray), .int .i64 0, .slice none 0 0]) ?_ 1 _ rfl; (with_reducible repeat (first | refine blk_drewN ?_ _ | refine blk_drew ?_ | refine blk_alloc ?_ _)); refine blk_put (cs := #[.int .i64 0, .int .i64 0, .string (⟨#[]⟩ : ByteArray), .int .i64 0, .slice none 0 0]) ?_ 0 _ rfl; (with_reducible repeat (first | refine blk_drewN ?_ _ | refine blk_drew ?_ | refine blk_alloc ?_ _)); exact BK149.out⟩, ⟨by repeat (first | (with_reducible first | exact HB.out | apply below_alloc | apply pw_below_drewN | apply below_drew1 | refine below_set ?_ GE149.out) | exact HB.out)⟩⟩
                · rw [if_neg c25] at H
                  have c25b0 : (t148 == 0) = false := beq_eq_false_iff_ne.mpr c25
                  have c25b1 : (t148 != 0) = true := bne_iff_ne.mpr c25
                  have H' := Aside0.mk H
                  clear H
                  go_wp2
                  go_meet
                  case rel => exact ⟨_, (true), (by first | rfl | (simp; done) | (simp [*]; done)), H', ⟨by have := HK1.out; first | omega | exact Nat.le_refl _⟩, ⟨by (with_reducible repeat (first | apply Kd.R_alloc | apply Kd.R_drewN | apply Kd.R_drew)); exact Kd.R_mono (Kd.R_far (p := ⟨gb149, 4, none⟩) (Kd.R_far (p := ⟨gb149, 3, none⟩) (Kd.R_far (p := ⟨gb149, 2, none⟩) (Kd.R_far (p := ⟨gb149, 1, none⟩) (Kd.R_far (p := ⟨gb149, 0, none⟩) (Kd.R_types HO135.out BK149.out (by decide)) (fun _ hk => hk.2) (.int .i64 t141)) (fun _ hk => hk.2) (.int .i64 t142)) (fun _ hk => hk.2) (.string t143)) (fun _ hk => hk.2) (.int .i64 t144)) (fun _ hk => hk.2) (.slice Ao23 t145.length co23)) (fun _ hk => hk.1.2)⟩, ⟨by (with_reducible repeat (first | apply Kd.R_alloc | apply Kd.R_drewN | apply Kd.R_drew)); exact Kd.R_mono (Kd.R_far (p := ⟨gb149, 4, none⟩) (Kd.R_far (p := ⟨gb149, 3, none⟩) (Kd.R_far (p := ⟨gb149, 2, none⟩) (Kd.R_far (p := ⟨gb149, 1, none⟩) (Kd.R_far (p := ⟨gb149, 0, none⟩) (Kd.R_types HO139.out BK149.out (by decide)) (fun _ hk => hk.2) (.int .i64 t141)) (fun _ hk => hk.2) (.int .i64 t142)) (fun _ hk => hk.2) (.string t143)) (fun _ hk => hk.2) (.int .i64 t144)) (fun _ hk => hk.2) (.slice Ao23 t145.length co23)) (fun _ hk => hk.1.2)⟩, ⟨by (with_reducible repeat (first | apply Kd.R_alloc | apply Kd.R_drewN | apply Kd.R_drew)); exact Kd.R_mono (Kd.R_far (p := ⟨gb149, 4, none⟩) (Kd.R_far (p := ⟨gb149, 3, none⟩) (Kd.R_far (p := ⟨gb149, 2, none⟩) (Kd.R_far (p := ⟨gb149, 1, none⟩) (Kd.R_far (p := ⟨gb149, 0, none⟩) (Kd.R_mono HO147.out (fun k_ hk => (⟨hk, hk.2⟩ : _ ∧ k_ ≠ gb149))) (fun _ hk => hk.2) (.int .i64 t141)) (fun _ hk => hk.2) (.int .i64 t142)) (fun _ hk => hk.2) (.string t143)) (fun _ hk => hk.2) (.int .i64 t144)) (fun _ hk => hk.2) (.slice Ao23 t145.length co23)) (fun _ hk => hk.1.2)⟩, ⟨by (with_reducible repeat (first | refine blk_drewN ?_ _ | refine blk_drew ?_ | refine blk_alloc ?_ _)); refine blk_put (cs := #[.int .i64 t141, .int .i64 t142, .string t143, .int .i64 t144, .slice none 0 0]) ?_ 4 _ rfl; (with_reducible repeat (first | refine blk_drewN ?_ _ | refine blk_drew ?_ | refine blk_alloc ?_ _)); refine blk_put (cs := #[.int .i64 t141, .int .i64 t142, .string t143, .int .i64 0, .slice none 0 0]) ?_ 3 _ rfl; (with_reducible repeat (first | refine blk_drewN ?_ _ | refine blk_drew ?_ | refine blk_alloc ?_ _)); refine blk_put (cs := #[.int .i64 t141, .int .i64 t142, .string (⟨#[]⟩ : ByteArray), .int .i64 0, .slice none 0 0]) ?_ 2 _ rfl; (with_reducible repeat (first | refine blk_drewN ?_ _ | refine blk_drew ?_ | refine blk_alloc ?_ _)); refine blk_put (cs := #[.int .i64 t141, .int .i64 0, .string (⟨#[]⟩ : ByteArray), .int .i64 0, .slice none 0 0]) ?_ 1 _ rfl; (with_reducible repeat (first | refine blk_drewN ?_ _ | refine blk_drew ?_ | refine blk_alloc ?_ _)); refine blk_put (cs := #[.int .i64 0, .int .i64 0, .string (⟨#[]⟩ : ByteArray), .int .i64 0, .slice none 0 0]) ?_ 0 _ rfl; (with_reducible repeat (first | refine blk_drewN ?_ _ | refine blk_drew ?_ | refine blk_alloc ?_ _)); exact BK149.out⟩, ⟨by repeat (first | (with_reducible first | exact HB.out | apply below_alloc | apply pw_below_drewN | apply below_drew1 | refine below_set ?_ GE149.out) | exact HB.out)⟩⟩
              · rw [if_neg c24] at H
                have c24b0 : (t136 == 0) = false := beq_eq_false_iff_ne.mpr c24
                have c24b1 : (t136 != 0) = true := bne_iff_ne.mpr c24
                (first | rw [c24b0] | (simp only [i64_w, i32_w]; rw [c24b0]) | skip)
                have H' := Aside0.mk H
                clear H
                go_wp2
                go_meet
                case rel => exact ⟨_, (true), (by first | rfl | (simp; done) | (simp [*]; done)), H', ⟨by have := HK1.out; first | omega | exact Nat.le_refl _⟩, ⟨by (with_reducible repeat (first | apply Kd.R_alloc | apply Kd.R_drewN | apply Kd.R_drew)); exact Kd.R_mono (Kd.R_far (p := ⟨gb149, 4, none⟩) (Kd.R_far (p := ⟨gb149, 3, none⟩) (Kd.R_far (p := ⟨gb149, 2, none⟩) (Kd.R_far (p := ⟨gb149, 1, none⟩) (Kd.R_far (p := ⟨gb149, 0, none⟩) (Kd.R_types HO135.out BK149.out (by decide)) (fun _ hk => hk.2) (.int .i64 t141)) (fun _ hk => hk.2) (.int .i64 t142)) (fun _ hk => hk.2) (.string t143)) (fun _ hk => hk.2) (.int .i64 t144)) (fun _ hk => hk.2) (.slice Ao23 t145.length co23)) (fun _ hk => hk.1.2)⟩, ⟨by (with_reducible repeat (first | apply Kd.R_alloc | apply Kd.R_drewN | apply Kd.R_drew)); exact Kd.R_mono (Kd.R_far (p := ⟨gb149, 4, none⟩) (Kd.R_far (p := ⟨gb149, 3, none⟩) (Kd.R_far (p := ⟨gb149, 2, none⟩) (Kd.R_far (p := ⟨gb149, 1, none⟩) (Kd.R_far (p := ⟨gb149, 0, none⟩) (Kd.R_types HO139.out BK149.out (by decide)) (fun _ hk => hk.2) (.int .i64 t141)) (fun _ hk => hk.2) (.int .i64 t142)) (fun _ hk => hk.2) (.string t143)) (fun _ hk => hk.2) (.int .i64 t144)) (fun _ hk => hk.2) (.slice Ao23 t145.length co23)) (fun _ hk => hk.1.2)⟩, ⟨by (with_reducible repeat (first | apply Kd.R_alloc | apply Kd.R_drewN | apply Kd.R_drew)); exact Kd.R_mono (Kd.R_far (p := ⟨gb149, 4, none⟩) (Kd.R_far (p := ⟨gb149, 3, none⟩) (Kd.R_far (p := ⟨gb149, 2, none⟩) (Kd.R_far (p := ⟨gb149, 1, none⟩) (Kd.R_far (p := ⟨gb149, 0, none⟩) (Kd.R_mono HO147.out (fun k_ hk => (⟨hk, hk.2⟩ : _ ∧ k_ ≠ gb149))) (fun _ hk => hk.2) (.int .i64 t141)) (fun _ hk => hk.2) (.int .i64 t142)) (fun _ hk => hk.2) (.string t143)) (fun _ hk => hk.2) (.int .i64 t144)) (fun _ hk => hk.2) (.slice Ao23 t145.length co23)) (fun _ hk => hk.1.2)⟩, ⟨by (with_reducible repeat (first | refine blk_drewN ?_ _ | refine blk_drew ?_ | refine blk_alloc ?_ _)); refine blk_put (cs := #[.int .i64 t141, .int .i64 t142, .string t143, .int .i64 t144, .slice none 0 0]) ?_ 4 _ rfl; (with_reducible repeat (first | refine blk_drewN ?_ _ | refine blk_drew ?_ | refine blk_alloc ?_ _)); refine blk_put (cs := #[.int .i64 t141, .int .i64 t142, .string t143, .int .i64 0, .slice none 0 0]) ?_ 3 _ rfl; (with_reducible repeat (first | refine blk_drewN ?_ _ | refine blk_drew ?_ | refine blk_alloc ?_ _)); refine blk_put (cs := #[.int .i64 t141, .int .i64 t142, .string (⟨#[]⟩ : ByteArray), .int .i64 0, .slice none 0 0]) ?_ 2 _ rfl; (with_reducible repeat (first | refine blk_drewN ?_ _ | refine blk_drew ?_ | refine blk_alloc ?_ _)); refine blk_put (cs := #[.int .i64 t141, .int .i64 0, .string (⟨#[]⟩ : ByteArray), .int .i64 0, .slice none 0 0]) ?_ 1 _ rfl; (with_reducible repeat (first | refine blk_drewN ?_ _ | refine blk_drew ?_ | refine blk_alloc ?_ _)); refine blk_put (cs := #[.int .i64 0, .int .i64 0, .string (⟨#[]⟩ : ByteArray), .int .i64 0, .slice none 0 0]) ?_ 0 _ rfl; (with_reducible repeat (first | refine blk_drewN ?_ _ | refine blk_drew ?_ | refine blk_alloc ?_ _)); exact BK149.out⟩, ⟨by repeat (first | (with_reducible first | exact HB.out | apply below_alloc | apply pw_below_drewN | apply below_drew1 | refine below_set ?_ GE149.out) | exact HB.out)⟩⟩
            case rest =>
              clear HC16
              try clear c1
              try clear p1
              try clear q1
              try clear hx1
              try clear c2
              try clear p2
              try clear c4
              try clear c4b0
              try clear c4b1
              try clear c5
              try clear c5b0
              try clear c5b1
              try clear p6
              try clear c7
              try clear c7b0
              try clear c8
              try clear c9
              try clear c9b0
              try clear c10
              try clear p10
              try clear q10
              try clear hx10
              try clear c11
              try clear c11b0
              try clear p12
              try clear q12
              try clear hx12
              try clear c14
              try clear c16
              try clear c22
              try clear c24
              try clear c24b0
              try clear c24b1
              try clear c25
              try clear c25b0
              try clear c25b1
              try clear c26
              try clear c26b0
              try clear c26b1
              try clear c27
              try clear c27b0
              try clear c27b1
              try clear hcz22_0
              try clear hcz22_1
              try clear hcz22_2
              try clear hcz22_3
              try clear hcz22_4
              try clear hcz28_0
              try clear hcz28_1
              try clear hcz28_2
              try clear hcz28_3
              try clear hcz28_4
              try clear hcz29_0
              try clear hcz29_1
              try clear hcz29_2
              try clear hcz29_3
              try clear hcz29_4
              try clear hcz30_0
              try clear hcz30_1
              try clear hcz30_2
              try clear hcz30_3
              try clear hcz30_4
              try clear hfz22_0
              try clear hfz22_1
              try clear hfz22_2
              try clear hfz22_3
              try clear hfz22_4
              try clear hfz28_0
              try clear hfz28_1
              try clear hfz28_2
              try clear hfz28_3
              try clear hfz28_4
              try clear hfz29_0
              try clear hfz29_1
              try clear hfz29_2
              try clear hfz29_3
              try clear hfz29_4
              try clear hfz30_0
              try clear hfz30_1
              try clear hfz30_2
              try clear hfz30_3
              try clear hfz30_4
              try clear p10
              try clear p12
              try clear p2
              try clear q10
              try clear q12
              obtain ⟨kq, x79_15, rfl, HA, HJ15, HO_6, HO_8, HO_150004, BK149, HB⟩ := hcut
              cases kq with
              | zero => exact absurd HA.out (by simp [sluicewaylaw01_DerTexts.j1])
              | succ kj15 =>
                have H := HA.out
                clear HA
                simp only [sluicewaylaw01_DerTexts.j1] at H
                by_cases c31 : x79_15 = true
                · subst c31
                  have H1 : (none) = some r := by rw [if_pos rfl] at H; exact H
                  clear H
                  have H := H1
                  clear H1
                  exact absurd H (by simp)
                · replace c31 := Bool.eq_false_iff.mpr c31
                  subst c31
                  have H1 : ((some (([12] : List Int) : List Int)).bind fun y150 => (if 1 ≤ (t133.length : Int) then ((some (t133.drop 1 : List Int)).bind fun y153 => (if y150.length + y153.length < 140737488355328 then ((some (y150 ++ y153 : List Int)).bind fun y157 => ((der_Of.f y157).bind fun bt160 => (if x4_1 = true then (if t132 = true then (if (strOfNums t137).toList = (strOfNums y157).toList then (if bt160.2.2.2.2.2 = 0 then (if bt160.1 = 3 then (some (bt160.2.2.1.toList == sx.toList)) else (none)) else (none)) else (none)) else (none)) else (if t132 = true then (if t140 = 1 then (some (bt160.2.2.2.2.2 == 2)) else (none)) else (none))))) else (none))) else (none))) = some r := by rw [if_neg (show ¬ (false = true) by decide)] at H; exact H
                  clear H
                  have H := H1
                  clear H1
                  obtain ⟨y150, hy150⟩ : ∃ y_ : List Int, y_ = (([12] : List Int)) := ⟨_, rfl⟩
                  replace H : (if 1 ≤ (t133.length : Int) then ((some (t133.drop 1 : List Int)).bind fun y153 => (if y150.length + y153.length < 140737488355328 then ((some (y150 ++ y153 : List Int)).bind fun y157 => ((der_Of.f y157).bind fun bt160 => (if x4_1 = true then (if t132 = true then (if (strOfNums t137).toList = (strOfNums y157).toList then (if bt160.2.2.2.2.2 = 0 then (if bt160.1 = 3 then (some (bt160.2.2.1.toList == sx.toList)) else (none)) else (none)) else (none)) else (none)) else (if t132 = true then (if t140 = 1 then (some (bt160.2.2.2.2.2 == 2)) else (none)) else (none))))) else (none))) else (none)) = some r := by first | (rw [hy150]; with_reducible exact H) | (have H2_ := (Option.bind_some _ _).symm.trans H; rw [hy150]; with_reducible exact H2_) | (have H2_ := (Option.bind_some _ _).symm.trans H; with_reducible exact H2_) | with_reducible exact H | (rw [hy150]; exact H) | exact H
                  have Ny150 := Aside0.mk hy150
                  clear hy150
                  by_cases c32 : 1 ≤ (t133.length : Int)
                  · rw [if_pos c32] at H
                    have c32b0 := eq_true c32
                    have c32b1 : decide (1 ≤ (t133.length : Int)) = true := decide_eq_true c32
                    clear c32
                    obtain ⟨y153, hy153⟩ : ∃ y_ : List Int, y_ = (t133.drop 1) := ⟨_, rfl⟩
                    replace H : (if y150.length + y153.length < 140737488355328 then ((some (y150 ++ y153 : List Int)).bind fun y157 => ((der_Of.f y157).bind fun bt160 => (if x4_1 = true then (if t132 = true then (if (strOfNums t137).toList = (strOfNums y157).toList then (if bt160.2.2.2.2.2 = 0 then (if bt160.1 = 3 then (some (bt160.2.2.1.toList == sx.toList)) else (none)) else (none)) else (none)) else (none)) else (if t132 = true then (if t140 = 1 then (some (bt160.2.2.2.2.2 == 2)) else (none)) else (none))))) else (none)) = some r := by first | (rw [hy153]; with_reducible exact H) | (have H2_ := (Option.bind_some _ _).symm.trans H; rw [hy153]; with_reducible exact H2_) | (have H2_ := (Option.bind_some _ _).symm.trans H; with_reducible exact H2_) | with_reducible exact H | (rw [hy153]; exact H) | exact H
                    have Ny153 := Aside0.mk hy153
                    clear hy153
                    by_cases c33 : y150.length + y153.length < 140737488355328
                    · rw [if_pos c33] at H
                      have LMc33 := Aside0.mk c33
                      clear c33
                      obtain ⟨y157, hy157⟩ : ∃ y_ : List Int, y_ = (y150 ++ y153) := ⟨_, rfl⟩
                      replace H : ((der_Of.f y157).bind fun bt160 => (if x4_1 = true then (if t132 = true then (if (strOfNums t137).toList = (strOfNums y157).toList then (if bt160.2.2.2.2.2 = 0 then (if bt160.1 = 3 then (some (bt160.2.2.1.toList == sx.toList)) else (none)) else (none)) else (none)) else (none)) else (if t132 = true then (if t140 = 1 then (some (bt160.2.2.2.2.2 == 2)) else (none)) else (none)))) = some r := by first | (rw [hy157]; with_reducible exact H) | (have H2_ := (Option.bind_some _ _).symm.trans H; rw [hy157]; with_reducible exact H2_) | (have H2_ := (Option.bind_some _ _).symm.trans H; with_reducible exact H2_) | with_reducible exact H | (rw [hy157]; exact H) | exact H
                      have Ny157 := Aside0.mk hy157
                      clear hy157
                      replace H := Option.bind_eq_some_iff.mp H
                      obtain ⟨⟨t160, t161, t162, t163, t164, t167⟩, A340, H⟩ := H
                      replace H : (if x4_1 = true then (if t132 = true then (if (strOfNums t137).toList = (strOfNums y157).toList then (if t167 = 0 then (if t160 = 3 then (some (t162.toList == sx.toList)) else (none)) else (none)) else (none)) else (none)) else (if t132 = true then (if t140 = 1 then (some (t167 == 2)) else (none)) else (none))) = some r := H
                      have A34 := Aside0.mk A340
                      clear A340
                      by_cases c35 : x4_1 = true
                      · subst c35
                        have H1 : (if t132 = true then (if (strOfNums t137).toList = (strOfNums y157).toList then (if t167 = 0 then (if t160 = 3 then (some (t162.toList == sx.toList)) else (none)) else (none)) else (none)) else (none)) = some r := by rw [if_pos rfl] at H; exact H
                        clear H
                        have H := H1
                        clear H1
                        by_cases c36 : t132 = true
                        · subst c36
                          have H1 : (if (strOfNums t137).toList = (strOfNums y157).toList then (if t167 = 0 then (if t160 = 3 then (some (t162.toList == sx.toList)) else (none)) else (none)) else (none)) = some r := by rw [if_pos rfl] at H; exact H
                          clear H
                          have H := H1
                          clear H1
                          by_cases c37 : (strOfNums t137).toList = (strOfNums y157).toList
                          · rw [if_pos c37] at H
                            have c37b0 : ((strOfNums t137).toList == (strOfNums y157).toList) = true := beq_iff_eq.mpr c37
                            have c37b1 : ((strOfNums t137).toList != (strOfNums y157).toList) = false := bne_eq_false_iff_eq.mpr c37
                            clear c37
                            by_cases c38 : t167 = 0
                            · rw [if_pos c38] at H
                              have c38b0 : (t167 == 0) = true := beq_iff_eq.mpr c38
                              have c38b1 : (t167 != 0) = false := bne_eq_false_iff_eq.mpr c38
                              clear c38
                              by_cases c39 : t160 = 3
                              · rw [if_pos c39] at H
                                have c39b0 : (t160 == 3) = true := beq_iff_eq.mpr c39
                                have c39b1 : (t160 != 3) = false := bne_eq_false_iff_eq.mpr c39
                                clear c39
                                obtain rfl := Option.some.inj H
                                go_wp2_with (first | ((with_reducible refine gate_dst (N := 80) rfl ?_); refine Kd.R_lit (Kd.int .u8) _ 5 ?hg (N := 80) ?hd (xs := ([12] : List Int)) (inner := [.int .u8 12]) (ok := fun _ => True) (okp := fun _ => True) ?hr ?hp (fun _ hk => hk) trivial (Below.refl _ _) (Nat.le_refl _) (by simp) ?_; (case hd => rfl); (case hg => rfl); (case hr => first | (go_simp; done) | (go_simp; rfl)); (case hp => exact (Reps.one (show Kd.M (Kd.int .u8) _ _ _ 12 [.int .u8 12] from rfl) (Reps.none _ _))); intro v151 w40 ho41 hb hg_ hnew_; clear hg_ hnew_; (first | rw [← Ny150.out] at ho41 | (simp only [Int.reduceToNat] at ho41; rw [← Ny150.out] at ho41)); have n0_ := Aside0.mk (Kd.R_elder' (by (with_reducible repeat (first | apply Kd.R_alloc | apply Kd.R_drewN | apply Kd.R_drew)); exact HO_6.out) (Kd.R_base ho41) hb); have n1_ := Aside0.mk (Kd.R_elder' (by (with_reducible repeat (first | apply Kd.R_alloc | apply Kd.R_drewN | apply Kd.R_drew)); exact HO_8.out) (Kd.R_base ho41) hb); have n2_ := Aside0.mk (Kd.R_below (by (with_reducible repeat (first | apply Kd.R_alloc | apply Kd.R_drewN | apply Kd.R_drew)); exact HO_150004.out) hb); have n3_ := Aside0.mk (Kd.R_lower (Kd.R_new' (Kd.R_new' ho41 (Kd.R_lt (by (with_reducible repeat (first | apply Kd.R_alloc | apply Kd.R_drewN | apply Kd.R_drew)); exact HO_6.out))) (Kd.R_lt (by (with_reducible repeat (first | apply Kd.R_alloc | apply Kd.R_drewN | apply Kd.R_drew)); exact HO_8.out))) (below_size (by repeat (first | (with_reducible first | exact HB.out | apply below_alloc | apply pw_below_drewN | apply below_drew1 | refine below_set ?_ GE149.out) | exact HB.out)))); have n4_ := Aside0.mk (blk_below (g := gb149) (o := .cells #[.int .i64 t141, .int .i64 t142, .string t143, .int .i64 t144, .slice Ao23 t145.length co23] 24 (0, 0)) (by (with_reducible repeat (first | refine blk_drewN ?_ _ | refine blk_drew ?_ | refine blk_alloc ?_ _)); exact BK149.out) hb); have n5_ := Aside0.mk (below_step (by repeat (first | (with_reducible first | exact HB.out | apply below_alloc | apply pw_below_drewN | apply below_drew1 | refine below_set ?_ GE149.out) | exact HB.out)) hb); clear HO_6; clear HO_8; clear HO_150004; clear BK149; clear HB; have HO_6 := n0_; have HO_8 := n1_; have HO_150004 := n2_; have HO152 := n3_; have BK149 := n4_; have HB := n5_; clear n0_ n1_ n2_ n3_ n4_ n5_; clear hb ho41; have q42 : (1 : Int) ≤ ((t133.length : Int) : Int) := of_decide_eq_true (by first | (with_reducible assumption) | assumption); obtain ⟨i042, hi042, _, hsz42, _⟩ := info_parts info5; have hroom42 : t133.length ≤ co19 := (Kd.R_reads' HO_6.out).2.1; have hC42 : Kd.C (Kd.int .u8) _ Ao19 t133.length t133 := (Kd.R_reads' HO_6.out).2.2; have hcut42 := cut_from (P := Try.prog) 27 5 .i64 Try.underlying27 hi042 1 hsz42 Ao19 t133.length co19 1 (by omega) q42; have hr42 := Kd.C_drop (m := (1 : Int).toNat) (c := co19) hC42 (by omega) hroom42; obtain ⟨A42, hA42⟩ : ∃ A1, A1 = (if co19 = (1 : Int).toNat then Ao19 else (Ao19 : Option Addr).map (·.add ((1 : Int).toNat * 1))) := ⟨_, rfl⟩; obtain ⟨c42, hc42⟩ : ∃ c1, c1 = co19 - (1 : Int).toNat := ⟨_, rfl⟩; have hy42 : y153.length = t133.length - (1 : Int).toNat := (by rw [Ny153.out, List.length_drop] <;> omega); rw [show (t133).drop (1 : Int).toNat = y153 from Ny153.out.symm] at hr42; replace hr42 : Kd.C (Kd.int .u8) _ A42 y153.length y153 := (by rw [hA42]; exact hr42); rw [← hy42, ← hA42, ← hc42] at hcut42; have HR156 := Aside0.mk hr42; have HC156 := Aside0.mk (show y153.length ≤ c42 from by rw [hy42, hc42]; exact Nat.sub_le_sub_right hroom42 _); clear hr42 hC42 hroom42 hi042 hsz42 hc42; have KY42 := Aside0.mk hy42; have KA42 := Aside0.mk hA42; clear hy42 hA42; have KL42 := Aside0.mk (show 1 ≤ t133.length from by omega); replace q42 := eq_true q42) | ((with_reducible refine gate_builtin (b := .append) (xs := #[.tmp 80, .tmp 82]) rfl ?_); at_builtin; refine Kd.R_append_rows (Kd.int .u8) (w0 := w) w.heap.size rfl (.tmp 80) (.tmp 82) 27 5 (.int .u8 0) 1 rfl Try.underlying27 info5 rfl (by decide) (by omega) v151 y150 y153 _ _ _ (fun k_ => some k_ ≠ (.slice Ao19 t133.length co19 : Value).ownBlock ∧ some k_ ≠ (v138 : Value).ownBlock) (fun _ => False) rfl rfl ?aO ?aR (fun _ _ h => h) (fun _ h => h.elim) ?aF ?aB ?aS ?aL ?_; (case aR => repeat (first | exact (by repeat (first | (with_reducible exact HR156.out) | (with_reducible refine Kd.C_alloc ?_ _) | (with_reducible refine Kd.C_drewN ?_ _) | (with_reducible refine Kd.C_drew ?_) | exact HR156.out)) | (with_reducible refine Kd.C_alloc ?_ _) | (with_reducible refine Kd.C_drewN ?_ _) | (with_reducible refine Kd.C_drew ?_))); (case aB => exact (by repeat (first | (with_reducible first | exact HB.out | apply below_alloc | apply pw_below_drewN | apply below_drew1 | refine below_set ?_ GE149.out) | exact HB.out))); (case aF => exact (fun k_ hk => ⟨Kd.fresh' (Kd.R_lt (by (with_reducible repeat (first | apply Kd.R_alloc | apply Kd.R_drewN | apply Kd.R_drew)); exact HO_6.out)) k_ hk, Kd.fresh' (Kd.R_lt (by (with_reducible repeat (first | apply Kd.R_alloc | apply Kd.R_drewN | apply Kd.R_drew)); exact HO_8.out)) k_ hk⟩)); (case aO => exact (by (with_reducible repeat (first | apply Kd.R_alloc | apply Kd.R_drewN | apply Kd.R_drew)); exact Kd.R_mono HO152.out (fun _ hk => ⟨hk.1.2, hk.2⟩))); (case aS => exact (below_size (by repeat (first | (with_reducible first | exact HB.out | apply below_alloc | apply pw_below_drewN | apply below_drew1 | refine below_set ?_ GE149.out) | exact HB.out)))); (case aL => have := LMc33.out; omega); intro v158 w43 ho hb hg hat; rw [← Ny157.out] at ho; have n0_ := Aside0.mk (Kd.R_after (ok := (fun k_ => some k_ ≠ (v138 : Value).ownBlock)) (by (with_reducible repeat (first | apply Kd.R_alloc | apply Kd.R_drewN | apply Kd.R_drew)); exact HO_6.out) hg hat); have n1_ := Aside0.mk (Kd.R_after (ok := (fun k_ => some k_ ≠ (.slice Ao19 t133.length co19 : Value).ownBlock)) (by (with_reducible repeat (first | apply Kd.R_alloc | apply Kd.R_drewN | apply Kd.R_drew)); exact HO_8.out) hg hat); have n2_ := Aside0.mk (Kd.R_over' (by (with_reducible repeat (first | apply Kd.R_alloc | apply Kd.R_drewN | apply Kd.R_drew)); exact HO_150004.out) (Kd.R_typed (by (with_reducible repeat (first | apply Kd.R_alloc | apply Kd.R_drewN | apply Kd.R_drew)); exact HO152.out)) (by decide) hg); have n3_ := Aside0.mk (blk_grown (g := gb149) (o := .cells #[.int .i64 t141, .int .i64 t142, .string t143, .int .i64 t144, .slice Ao23 t145.length co23] 24 (0, 0)) (by (with_reducible repeat (first | refine blk_drewN ?_ _ | refine blk_drew ?_ | refine blk_alloc ?_ _)); exact BK149.out) hg (Kd.R_ne HO152.out BK149.out (by decide))); have n4_ := Aside0.mk (hb); have n5_ := Aside0.mk ((show Kd.C (Kd.int .u8) w43 A42 y153.length y153 from by rw [Ny153.out, KA42.out]; exact Kd.C_drop (m := 1) (c := co19) ((Kd.R_reads' (Kd.R_after (ok := (fun k_ => some k_ ≠ (v138 : Value).ownBlock)) (by (with_reducible repeat (first | apply Kd.R_alloc | apply Kd.R_drewN | apply Kd.R_drew)); exact HO_6.out) hg hat)).2.2) KL42.out ((Kd.R_reads' (Kd.R_after (ok := (fun k_ => some k_ ≠ (v138 : Value).ownBlock)) (by (with_reducible repeat (first | apply Kd.R_alloc | apply Kd.R_drewN | apply Kd.R_drew)); exact HO_6.out) hg hat)).2.1))); have n6_ := Aside0.mk (ho); clear HO_6; clear HO_8; clear HO_150004; clear BK149; clear HB; clear HR156; clear HO152; have HO_6 := n0_; have HO_8 := n1_; have HO_150004 := n2_; have BK149 := n3_; have HB := n4_; have HR156 := n5_; have HO159 := n6_; clear n0_ n1_ n2_ n3_ n4_ n5_ n6_; clear ho hb hg hat; obtain ⟨Ao44, co44, eo44⟩ := Kd.R_slice HO159.out; subst eo44) | ((with_reducible refine gate_callee (f := 22) rfl ?_); refine goesL_ (some 86) rfl rfl Try.func22 (by kernel_rfl) rfl #[.slice Ao44 y157.length co44] rfl (by (try simp only [List.map_toArray, List.map_cons, List.map_nil]); first | done | rfl | (simp only [List.length_drop, List.length_take]; rfl)) ?_; (with_reducible refine (der_Of.calls _ _ y157 t160 t161 t162 t163 t164 t167 _ ?side1 ?side2 A34.out).mono ?_); (case side1 => repeat (first | exact (Kd.R_reads' HO159.out).2.2 | (with_reducible refine Kd.C_alloc ?_ _) | (with_reducible refine Kd.C_drewN ?_ _) | (with_reducible refine Kd.C_drew ?_))); (case side2 => exact (Kd.R_reads' HO159.out).2.1); rintro e w45 ⟨v165, rfl, ho0, hb⟩; refine ⟨_, rfl, ?_⟩; have n0_ := Aside0.mk (Kd.R_below (by (with_reducible repeat (first | apply Kd.R_alloc | apply Kd.R_drewN | apply Kd.R_drew)); exact HO_6.out) hb); have n1_ := Aside0.mk (Kd.R_below (by (with_reducible repeat (first | apply Kd.R_alloc | apply Kd.R_drewN | apply Kd.R_drew)); exact HO_8.out) hb); have n2_ := Aside0.mk (Kd.R_elder' (by (with_reducible repeat (first | apply Kd.R_alloc | apply Kd.R_drewN | apply Kd.R_drew)); exact HO_150004.out) (Kd.R_base ho0) hb); have n3_ := Aside0.mk (Kd.R_below (by (with_reducible repeat (first | apply Kd.R_alloc | apply Kd.R_drewN | apply Kd.R_drew)); exact HO159.out) hb); have n4_ := Aside0.mk (Kd.R_lower (Kd.R_newB (Kd.R_new' ho0 (Kd.R_lt (by (with_reducible repeat (first | apply Kd.R_alloc | apply Kd.R_drewN | apply Kd.R_drew)); exact HO_150004.out))) (g := gb149) (o := .cells #[.int .i64 t141, .int .i64 t142, .string t143, .int .i64 t144, .slice Ao23 t145.length co23] 24 (0, 0)) (by (with_reducible repeat (first | refine blk_drewN ?_ _ | refine blk_drew ?_ | refine blk_alloc ?_ _)); exact BK149.out)) (below_size (by repeat (first | (with_reducible first | exact HB.out | apply below_alloc | apply pw_below_drewN | apply below_drew1 | refine below_set ?_ GE149.out) | exact HB.out)))); have n5_ := Aside0.mk (blk_below (g := gb149) (o := .cells #[.int .i64 t141, .int .i64 t142, .string t143, .int .i64 t144, .slice Ao23 t145.length co23] 24 (0, 0)) (by (with_reducible repeat (first | refine blk_drewN ?_ _ | refine blk_drew ?_ | refine blk_alloc ?_ _)); exact BK149.out) hb); have n6_ := Aside0.mk (Kd.C_below (by repeat (first | (with_reducible exact HR156.out) | (with_reducible refine Kd.C_alloc ?_ _) | (with_reducible refine Kd.C_drewN ?_ _) | (with_reducible refine Kd.C_drew ?_) | exact HR156.out)) hb); have n7_ := Aside0.mk (below_step (by repeat (first | (with_reducible first | exact HB.out | apply below_alloc | apply pw_below_drewN | apply below_drew1 | refine below_set ?_ GE149.out) | exact HB.out)) hb); clear HO_6; clear HO_8; clear HO_150004; clear HO159; clear BK149; clear HR156; clear HB; have HO_6 := n0_; have HO_8 := n1_; have HO_150004 := n2_; have HO159 := n3_; have HO166 := n4_; have BK149 := n5_; have HR156 := n6_; have HB := n7_; clear n0_ n1_ n2_ n3_ n4_ n5_ n6_ n7_; (try clear hb); (try clear hb2); (try clear hk); (try clear hi); (try clear ho0)) | ((with_reducible refine gate_dst (N := 13) rfl ?_); refine box_event ?hg (N := 13) ?hd (cs := #[.int .i64 0, .int .i64 0, .string (⟨#[]⟩ : ByteArray), .int .i64 0, .slice none 0 0]) (t := 24) ?hr ?_; (case hd => rfl); (case hg => rfl); (case hr => first | (go_simp; done) | (go_simp; rfl)); intro gb168 hg w46 hbox hb; have n0_ := Aside0.mk (Kd.R_below (by (with_reducible repeat (first | apply Kd.R_alloc | apply Kd.R_drewN | apply Kd.R_drew)); exact HO_6.out) hb); have n1_ := Aside0.mk (Kd.R_below (by (with_reducible repeat (first | apply Kd.R_alloc | apply Kd.R_drewN | apply Kd.R_drew)); exact HO_8.out) hb); have n2_ := Aside0.mk (Kd.R_below (Kd.R_elderB (by (with_reducible repeat (first | apply Kd.R_alloc | apply Kd.R_drewN | apply Kd.R_drew)); exact HO_150004.out) gb168 (Nat.le_of_eq hg.symm)) hb); have n3_ := Aside0.mk (Kd.R_below (by (with_reducible repeat (first | apply Kd.R_alloc | apply Kd.R_drewN | apply Kd.R_drew)); exact HO159.out) hb); have n4_ := Aside0.mk (Kd.R_below (Kd.R_elderB (by (with_reducible repeat (first | apply Kd.R_alloc | apply Kd.R_drewN | apply Kd.R_drew)); exact HO166.out) gb168 (Nat.le_of_eq hg.symm)) hb); have n5_ := Aside0.mk (blk_below (g := gb149) (o := .cells #[.int .i64 t141, .int .i64 t142, .string t143, .int .i64 t144, .slice Ao23 t145.length co23] 24 (0, 0)) (by (with_reducible repeat (first | refine blk_drewN ?_ _ | refine blk_drew ?_ | refine blk_alloc ?_ _)); exact BK149.out) hb); have n6_ := Aside0.mk (Kd.C_below (by repeat (first | (with_reducible exact HR156.out) | (with_reducible refine Kd.C_alloc ?_ _) | (with_reducible refine Kd.C_drewN ?_ _) | (with_reducible refine Kd.C_drew ?_) | exact HR156.out)) hb); have n7_ := Aside0.mk (below_step (by repeat (first | (with_reducible first | exact HB.out | apply below_alloc | apply pw_below_drewN | apply below_drew1 | refine below_set ?_ GE149.out) | exact HB.out)) hb); have n8_ := Aside0.mk (hbox); have n9_ := Aside0.mk ((by rw [hg]; exact (below_size (by repeat (first | (with_reducible first | exact HB.out | apply below_alloc | apply pw_below_drewN | apply below_drew1 | refine below_set ?_ GE149.out) | exact HB.out))) : w.heap.size ≤ gb168)); have n10_ := Aside0.mk ((by rw [hg]; exact (below_size (by repeat (first | (with_reducible first | exact HB.out | apply below_alloc | apply pw_below_drewN | apply below_drew1 | refine below_set ?_ GE149.out) | exact HB.out))) : w.heap.size ≤ gb168)); have n11_ := Aside0.mk ((by rw [hg]; exact Nat.ne_of_lt (blk_lt (g := gb149) (o := .cells #[.int .i64 t141, .int .i64 t142, .string t143, .int .i64 t144, .slice Ao23 t145.length co23] 24 (0, 0)) (by (with_reducible repeat (first | refine blk_drewN ?_ _ | refine blk_drew ?_ | refine blk_alloc ?_ _)); exact BK149.out)) : gb149 ≠ gb168)); have n12_ := Aside0.mk ((by rw [hg]; exact Nat.ne_of_gt (blk_lt (g := gb149) (o := .cells #[.int .i64 t141, .int .i64 t142, .string t143, .int .i64 t144, .slice Ao23 t145.length co23] 24 (0, 0)) (by (with_reducible repeat (first | refine blk_drewN ?_ _ | refine blk_drew ?_ | refine blk_alloc ?_ _)); exact BK149.out)) : gb168 ≠ gb149)); clear HO_6; clear HO_8; clear HO_150004; clear HO159; clear HO166; clear BK149; clear HR156; clear HB; have HO_6 := n0_; have HO_8 := n1_; have HO_150004 := n2_; have HO159 := n3_; have HO166 := n4_; have BK149 := n5_; have HR156 := n6_; have HB := n7_; have BK168 := n8_; have GW168 := n9_; have GE168 := n10_; have NB149_168 := n11_; have NB168_149 := n12_; clear n0_ n1_ n2_ n3_ n4_ n5_ n6_ n7_ n8_ n9_ n10_ n11_ n12_; clear hb hbox hg; have hnb47 := NB168_149.out; have hnc47 := NB149_168.out; have hcz48_0 : w46.cell? ⟨gb168, 0, none⟩ = some (.int .i64 0) := (blk_cell BK168.out 0).trans rfl; have hcz48_1 : w46.cell? ⟨gb168, 1, none⟩ = some (.int .i64 0) := (blk_cell BK168.out 1).trans rfl; have hcz48_2 : w46.cell? ⟨gb168, 2, none⟩ = some (.string (⟨#[]⟩ : ByteArray)) := (blk_cell BK168.out 2).trans rfl; have hcz48_3 : w46.cell? ⟨gb168, 3, none⟩ = some (.int .i64 0) := (blk_cell BK168.out 3).trans rfl; have hcz48_4 : w46.cell? ⟨gb168, 4, none⟩ = some (.slice none 0 0) := (blk_cell BK168.out 4).trans rfl; have hfz48_0 := blk_frozen BK168.out 0; have hfz48_1 := blk_frozen BK168.out 1; have hfz48_2 := blk_frozen BK168.out 2; have hfz48_3 := blk_frozen BK168.out 3; have hfz48_4 := blk_frozen BK168.out 4; obtain ⟨Ao49, co49, eo49⟩ := Kd.R_slice HO166.out; subst eo49; have hcv50 := own_string (P := Try.prog) Try.underlying27 Try.underlying5 Try.underlying9 (Kd.own_of_R HO_8.out); have hcx50 := fun u0 u1 u2 u3 u4 => own_string (P := Try.prog) Try.underlying27 Try.underlying5 Try.underlying9 (Kd.own_of_R (R_sets5b HO_8.out BK168.out u0 u1 u2 u3 u4)); have hcx51 := fun u0 u1 u2 u3 u4 => own_string (P := Try.prog) Try.underlying27 Try.underlying5 Try.underlying9 (Kd.own_of_R (R_sets5b HO159.out BK168.out u0 u1 u2 u3 u4)); have hcv51 := own_string (P := Try.prog) Try.underlying27 Try.underlying5 Try.underlying9 (Kd.own_of_R HO159.out)))
                                go_ret
                                exact ⟨by first | rfl | (simp [errW_none, errW_some] <;> rfl) | (simp only [← hji3]; first | rfl | (simp [errW_none, errW_some] <;> rfl)) | (simp [*, errW_none, errW_some] <;> rfl), by repeat (first | (with_reducible first | exact HB.out | apply below_alloc | apply pw_below_drewN | apply below_drew1 | refine below_set ?_ GE149.out | refine below_set ?_ GE168.out) | exact HB.out)⟩
                              · rw [if_neg c39] at H
                                exact absurd H (by simp)
                            · rw [if_neg c38] at H
                              exact absurd H (by simp)
                          · rw [if_neg c37] at H
                            exact absurd H (by simp)
                        · replace c36 := Bool.eq_false_iff.mpr c36
                          subst c36
                          have H1 : (none) = some r := by rw [if_neg (show ¬ (false = true) by decide)] at H; exact H
                          clear H
                          have H := H1
                          clear H1
                          exact absurd H (by simp)
                      · replace c35 := Bool.eq_false_iff.mpr c35
                        subst c35
                        have H1 : (if t132 = true then (if t140 = 1 then (some (t167 == 2)) else (none)) else (none)) = some r := by rw [if_neg (show ¬ (false = true) by decide)] at H; exact H
                        clear H
                        have H := H1
                        clear H1
                        by_cases c52 : t132 = true
                        · subst c52
                          have H1 : (if t140 = 1 then (some (t167 == 2)) else (none)) = some r := by rw [if_pos rfl] at H; exact H
                          clear H
                          have H := H1
                          clear H1
                          by_cases c53 : t140 = 1
                          · rw [if_pos c53] at H
                            have c53b0 : (t140 == 1) = true := beq_iff_eq.mpr c53
                            have c53b1 : (t140 != 1) = false := bne_eq_false_iff_eq.mpr c53
                            clear c53
                            obtain rfl := Option.some.inj H
                            go_wp2_with (first | ((with_reducible refine gate_dst (N := 80) rfl ?_); refine Kd.R_lit (Kd.int .u8) _ 5 ?hg (N := 80) ?hd (xs := ([12] : List Int)) (inner := [.int .u8 12]) (ok := fun _ => True) (okp := fun _ => True) ?hr ?hp (fun _ hk => hk) trivial (Below.refl _ _) (Nat.le_refl _) (by simp) ?_; (case hd => rfl); (case hg => rfl); (case hr => first | (go_simp; done) | (go_simp; rfl)); (case hp => exact (Reps.one (show Kd.M (Kd.int .u8) _ _ _ 12 [.int .u8 12] from rfl) (Reps.none _ _))); intro v151 w54 ho55 hb hg_ hnew_; clear hg_ hnew_; (first | rw [← Ny150.out] at ho55 | (simp only [Int.reduceToNat] at ho55; rw [← Ny150.out] at ho55)); have n0_ := Aside0.mk (Kd.R_elder' (by (with_reducible repeat (first | apply Kd.R_alloc | apply Kd.R_drewN | apply Kd.R_drew)); exact HO_6.out) (Kd.R_base ho55) hb); have n1_ := Aside0.mk (Kd.R_elder' (by (with_reducible repeat (first | apply Kd.R_alloc | apply Kd.R_drewN | apply Kd.R_drew)); exact HO_8.out) (Kd.R_base ho55) hb); have n2_ := Aside0.mk (Kd.R_below (by (with_reducible repeat (first | apply Kd.R_alloc | apply Kd.R_drewN | apply Kd.R_drew)); exact HO_150004.out) hb); have n3_ := Aside0.mk (Kd.R_lower (Kd.R_new' (Kd.R_new' ho55 (Kd.R_lt (by (with_reducible repeat (first | apply Kd.R_alloc | apply Kd.R_drewN | apply Kd.R_drew)); exact HO_6.out))) (Kd.R_lt (by (with_reducible repeat (first | apply Kd.R_alloc | apply Kd.R_drewN | apply Kd.R_drew)); exact HO_8.out))) (below_size (by repeat (first | (with_reducible first | exact HB.out | apply below_alloc | apply pw_below_drewN | apply below_drew1 | refine below_set ?_ GE149.out) | exact HB.out)))); have n4_ := Aside0.mk (blk_below (g := gb149) (o := .cells #[.int .i64 t141, .int .i64 t142, .string t143, .int .i64 t144, .slice Ao23 t145.length co23] 24 (0, 0)) (by (with_reducible repeat (first | refine blk_drewN ?_ _ | refine blk_drew ?_ | refine blk_alloc ?_ _)); exact BK149.out) hb); have n5_ := Aside0.mk (below_step (by repeat (first | (with_reducible first | exact HB.out | apply below_alloc | apply pw_below_drewN | apply below_drew1 | refine below_set ?_ GE149.out) | exact HB.out)) hb); clear HO_6; clear HO_8; clear HO_150004; clear BK149; clear HB; have HO_6 := n0_; have HO_8 := n1_; have HO_150004 := n2_; have HO152 := n3_; have BK149 := n4_; have HB := n5_; clear n0_ n1_ n2_ n3_ n4_ n5_; clear hb ho55; have q56 : (1 : Int) ≤ ((t133.length : Int) : Int) := of_decide_eq_true (by first | (with_reducible assumption) | assumption); obtain ⟨i056, hi056, _, hsz56, _⟩ := info_parts info5; have hroom56 : t133.length ≤ co19 := (Kd.R_reads' HO_6.out).2.1; have hC56 : Kd.C (Kd.int .u8) _ Ao19 t133.length t133 := (Kd.R_reads' HO_6.out).2.2; have hcut56 := cut_from (P := Try.prog) 27 5 .i64 Try.underlying27 hi056 1 hsz56 Ao19 t133.length co19 1 (by omega) q56; have hr56 := Kd.C_drop (m := (1 : Int).toNat) (c := co19) hC56 (by omega) hroom56; obtain ⟨A56, hA56⟩ : ∃ A1, A1 = (if co19 = (1 : Int).toNat then Ao19 else (Ao19 : Option Addr).map (·.add ((1 : Int).toNat * 1))) := ⟨_, rfl⟩; obtain ⟨c56, hc56⟩ : ∃ c1, c1 = co19 - (1 : Int).toNat := ⟨_, rfl⟩; have hy56 : y153.length = t133.length - (1 : Int).toNat := (by rw [Ny153.out, List.length_drop] <;> omega); rw [show (t133).drop (1 : Int).toNat = y153 from Ny153.out.symm] at hr56; replace hr56 : Kd.C (Kd.int .u8) _ A56 y153.length y153 := (by rw [hA56]; exact hr56); rw [← hy56, ← hA56, ← hc56] at hcut56; have HR156 := Aside0.mk hr56; have HC156 := Aside0.mk (show y153.length ≤ c56 from by rw [hy56, hc56]; exact Nat.sub_le_sub_right hroom56 _); clear hr56 hC56 hroom56 hi056 hsz56 hc56; have KY56 := Aside0.mk hy56; have KA56 := Aside0.mk hA56; clear hy56 hA56; have KL56 := Aside0.mk (show 1 ≤ t133.length from by omega); replace q56 := eq_true q56) | ((with_reducible refine gate_builtin (b := .append) (xs := #[.tmp 80, .tmp 82]) rfl ?_); at_builtin; refine Kd.R_append_rows (Kd.int .u8) (w0 := w) w.heap.size rfl (.tmp 80) (.tmp 82) 27 5 (.int .u8 0) 1 rfl Try.underlying27 info5 rfl (by decide) (by omega) v151 y150 y153 _ _ _ (fun k_ => some k_ ≠ (.slice Ao19 t133.length co19 : Value).ownBlock ∧ some k_ ≠ (v138 : Value).ownBlock) (fun _ => False) rfl rfl ?aO ?aR (fun _ _ h => h) (fun _ h => h.elim) ?aF ?aB ?aS ?aL ?_; (case aR => repeat (first | exact (by repeat (first | (with_reducible exact HR156.out) | (with_reducible refine Kd.C_alloc ?_ _) | (with_reducible refine Kd.C_drewN ?_ _) | (with_reducible refine Kd.C_drew ?_) | exact HR156.out)) | (with_reducible refine Kd.C_alloc ?_ _) | (with_reducible refine Kd.C_drewN ?_ _) | (with_reducible refine Kd.C_drew ?_))); (case aB => exact (by repeat (first | (with_reducible first | exact HB.out | apply below_alloc | apply pw_below_drewN | apply below_drew1 | refine below_set ?_ GE149.out) | exact HB.out))); (case aF => exact (fun k_ hk => ⟨Kd.fresh' (Kd.R_lt (by (with_reducible repeat (first | apply Kd.R_alloc | apply Kd.R_drewN | apply Kd.R_drew)); exact HO_6.out)) k_ hk, Kd.fresh' (Kd.R_lt (by (with_reducible repeat (first | apply Kd.R_alloc | apply Kd.R_drewN | apply Kd.R_drew)); exact HO_8.out)) k_ hk⟩)); (case aO => exact (by (with_reducible repeat (first | apply Kd.R_alloc | apply Kd.R_drewN | apply Kd.R_drew)); exact Kd.R_mono HO152.out (fun _ hk => ⟨hk.1.2, hk.2⟩))); (case aS => exact (below_size (by repeat (first | (with_reducible first | exact HB.out | apply below_alloc | apply pw_below_drewN | apply below_drew1 | refine below_set ?_ GE149.out) | exact HB.out)))); (case aL => have := LMc33.out; omega); intro v158 w57 ho hb hg hat; rw [← Ny157.out] at ho; have n0_ := Aside0.mk (Kd.R_after (ok := (fun k_ => some k_ ≠ (v138 : Value).ownBlock)) (by (with_reducible repeat (first | apply Kd.R_alloc | apply Kd.R_drewN | apply Kd.R_drew)); exact HO_6.out) hg hat); have n1_ := Aside0.mk (Kd.R_after (ok := (fun k_ => some k_ ≠ (.slice Ao19 t133.length co19 : Value).ownBlock)) (by (with_reducible repeat (first | apply Kd.R_alloc | apply Kd.R_drewN | apply Kd.R_drew)); exact HO_8.out) hg hat); have n2_ := Aside0.mk (Kd.R_over' (by (with_reducible repeat (first | apply Kd.R_alloc | apply Kd.R_drewN | apply Kd.R_drew)); exact HO_150004.out) (Kd.R_typed (by (with_reducible repeat (first | apply Kd.R_alloc | apply Kd.R_drewN | apply Kd.R_drew)); exact HO152.out)) (by decide) hg); have n3_ := Aside0.mk (blk_grown (g := gb149) (o := .cells #[.int .i64 t141, .int .i64 t142, .string t143, .int .i64 t144, .slice Ao23 t145.length co23] 24 (0, 0)) (by (with_reducible repeat (first | refine blk_drewN ?_ _ | refine blk_drew ?_ | refine blk_alloc ?_ _)); exact BK149.out) hg (Kd.R_ne HO152.out BK149.out (by decide))); have n4_ := Aside0.mk (hb); have n5_ := Aside0.mk ((show Kd.C (Kd.int .u8) w57 A56 y153.length y153 from by rw [Ny153.out, KA56.out]; exact Kd.C_drop (m := 1) (c := co19) ((Kd.R_reads' (Kd.R_after (ok := (fun k_ => some k_ ≠ (v138 : Value).ownBlock)) (by (with_reducible repeat (first | apply Kd.R_alloc | apply Kd.R_drewN | apply Kd.R_drew)); exact HO_6.out) hg hat)).2.2) KL56.out ((Kd.R_reads' (Kd.R_after (ok := (fun k_ => some k_ ≠ (v138 : Value).ownBlock)) (by (with_reducible repeat (first | apply Kd.R_alloc | apply Kd.R_drewN | apply Kd.R_drew)); exact HO_6.out) hg hat)).2.1))); have n6_ := Aside0.mk (ho); clear HO_6; clear HO_8; clear HO_150004; clear BK149; clear HB; clear HR156; clear HO152; have HO_6 := n0_; have HO_8 := n1_; have HO_150004 := n2_; have BK149 := n3_; have HB := n4_; have HR156 := n5_; have HO159 := n6_; clear n0_ n1_ n2_ n3_ n4_ n5_ n6_; clear ho hb hg hat; obtain ⟨Ao58, co58, eo58⟩ := Kd.R_slice HO159.out; subst eo58) | ((with_reducible refine gate_callee (f := 22) rfl ?_); refine goesL_ (some 86) rfl rfl Try.func22 (by kernel_rfl) rfl #[.slice Ao58 y157.length co58] rfl (by (try simp only [List.map_toArray, List.map_cons, List.map_nil]); first | done | rfl | (simp only [List.length_drop, List.length_take]; rfl)) ?_; (with_reducible refine (der_Of.calls _ _ y157 t160 t161 t162 t163 t164 t167 _ ?side1 ?side2 A34.out).mono ?_); (case side1 => repeat (first | exact (Kd.R_reads' HO159.out).2.2 | (with_reducible refine Kd.C_alloc ?_ _) | (with_reducible refine Kd.C_drewN ?_ _) | (with_reducible refine Kd.C_drew ?_))); (case side2 => exact (Kd.R_reads' HO159.out).2.1); rintro e w59 ⟨v165, rfl, ho0, hb⟩; refine ⟨_, rfl, ?_⟩; have n0_ := Aside0.mk (Kd.R_below (by (with_reducible repeat (first | apply Kd.R_alloc | apply Kd.R_drewN | apply Kd.R_drew)); exact HO_6.out) hb); have n1_ := Aside0.mk (Kd.R_below (by (with_reducible repeat (first | apply Kd.R_alloc | apply Kd.R_drewN | apply Kd.R_drew)); exact HO_8.out) hb); have n2_ := Aside0.mk (Kd.R_elder' (by (with_reducible repeat (first | apply Kd.R_alloc | apply Kd.R_drewN | apply Kd.R_drew)); exact HO_150004.out) (Kd.R_base ho0) hb); have n3_ := Aside0.mk (Kd.R_below (by (with_reducible repeat (first | apply Kd.R_alloc | apply Kd.R_drewN | apply Kd.R_drew)); exact HO159.out) hb); have n4_ := Aside0.mk (Kd.R_lower (Kd.R_newB (Kd.R_new' ho0 (Kd.R_lt (by (with_reducible repeat (first | apply Kd.R_alloc | apply Kd.R_drewN | apply Kd.R_drew)); exact HO_150004.out))) (g := gb149) (o := .cells #[.int .i64 t141, .int .i64 t142, .string t143, .int .i64 t144, .slice Ao23 t145.length co23] 24 (0, 0)) (by (with_reducible repeat (first | refine blk_drewN ?_ _ | refine blk_drew ?_ | refine blk_alloc ?_ _)); exact BK149.out)) (below_size (by repeat (first | (with_reducible first | exact HB.out | apply below_alloc | apply pw_below_drewN | apply below_drew1 | refine below_set ?_ GE149.out) | exact HB.out)))); have n5_ := Aside0.mk (blk_below (g := gb149) (o := .cells #[.int .i64 t141, .int .i64 t142, .string t143, .int .i64 t144, .slice Ao23 t145.length co23] 24 (0, 0)) (by (with_reducible repeat (first | refine blk_drewN ?_ _ | refine blk_drew ?_ | refine blk_alloc ?_ _)); exact BK149.out) hb); have n6_ := Aside0.mk (Kd.C_below (by repeat (first | (with_reducible exact HR156.out) | (with_reducible refine Kd.C_alloc ?_ _) | (with_reducible refine Kd.C_drewN ?_ _) | (with_reducible refine Kd.C_drew ?_) | exact HR156.out)) hb); have n7_ := Aside0.mk (below_step (by repeat (first | (with_reducible first | exact HB.out | apply below_alloc | apply pw_below_drewN | apply below_drew1 | refine below_set ?_ GE149.out) | exact HB.out)) hb); clear HO_6; clear HO_8; clear HO_150004; clear HO159; clear BK149; clear HR156; clear HB; have HO_6 := n0_; have HO_8 := n1_; have HO_150004 := n2_; have HO159 := n3_; have HO166 := n4_; have BK149 := n5_; have HR156 := n6_; have HB := n7_; clear n0_ n1_ n2_ n3_ n4_ n5_ n6_ n7_; (try clear hb); (try clear hb2); (try clear hk); (try clear hi); (try clear ho0)) | ((with_reducible refine gate_dst (N := 13) rfl ?_); refine box_event ?hg (N := 13) ?hd (cs := #[.int .i64 0, .int .i64 0, .string (⟨#[]⟩ : ByteArray), .int .i64 0, .slice none 0 0]) (t := 24) ?hr ?_; (case hd => rfl); (case hg => rfl); (case hr => first | (go_simp; done) | (go_simp; rfl)); intro gb168 hg w60 hbox hb; have n0_ := Aside0.mk (Kd.R_below (by (with_reducible repeat (first | apply Kd.R_alloc | apply Kd.R_drewN | apply Kd.R_drew)); exact HO_6.out) hb); have n1_ := Aside0.mk (Kd.R_below (by (with_reducible repeat (first | apply Kd.R_alloc | apply Kd.R_drewN | apply Kd.R_drew)); exact HO_8.out) hb); have n2_ := Aside0.mk (Kd.R_below (Kd.R_elderB (by (with_reducible repeat (first | apply Kd.R_alloc | apply Kd.R_drewN | apply Kd.R_drew)); exact HO_150004.out) gb168 (Nat.le_of_eq hg.symm)) hb); have n3_ := Aside0.mk (Kd.R_below (by (with_reducible repeat (first | apply Kd.R_alloc | apply Kd.R_drewN | apply Kd.R_drew)); exact HO159.out) hb); have n4_ := Aside0.mk (Kd.R_below (Kd.R_elderB (by (with_reducible repeat (first | apply Kd.R_alloc | apply Kd.R_drewN | apply Kd.R_drew)); exact HO166.out) gb168 (Nat.le_of_eq hg.symm)) hb); have n5_ := Aside0.mk (blk_below (g := gb149) (o := .cells #[.int .i64 t141, .int .i64 t142, .string t143, .int .i64 t144, .slice Ao23 t145.length co23] 24 (0, 0)) (by (with_reducible repeat (first | refine blk_drewN ?_ _ | refine blk_drew ?_ | refine blk_alloc ?_ _)); exact BK149.out) hb); have n6_ := Aside0.mk (Kd.C_below (by repeat (first | (with_reducible exact HR156.out) | (with_reducible refine Kd.C_alloc ?_ _) | (with_reducible refine Kd.C_drewN ?_ _) | (with_reducible refine Kd.C_drew ?_) | exact HR156.out)) hb); have n7_ := Aside0.mk (below_step (by repeat (first | (with_reducible first | exact HB.out | apply below_alloc | apply pw_below_drewN | apply below_drew1 | refine below_set ?_ GE149.out) | exact HB.out)) hb); have n8_ := Aside0.mk (hbox); have n9_ := Aside0.mk ((by rw [hg]; exact (below_size (by repeat (first | (with_reducible first | exact HB.out | apply below_alloc | apply pw_below_drewN | apply below_drew1 | refine below_set ?_ GE149.out) | exact HB.out))) : w.heap.size ≤ gb168)); have n10_ := Aside0.mk ((by rw [hg]; exact (below_size (by repeat (first | (with_reducible first | exact HB.out | apply below_alloc | apply pw_below_drewN | apply below_drew1 | refine below_set ?_ GE149.out) | exact HB.out))) : w.heap.size ≤ gb168)); have n11_ := Aside0.mk ((by rw [hg]; exact Nat.ne_of_lt (blk_lt (g := gb149) (o := .cells #[.int .i64 t141, .int .i64 t142, .string t143, .int .i64 t144, .slice Ao23 t145.length co23] 24 (0, 0)) (by (with_reducible repeat (first | refine blk_drewN ?_ _ | refine blk_drew ?_ | refine blk_alloc ?_ _)); exact BK149.out)) : gb149 ≠ gb168)); have n12_ := Aside0.mk ((by rw [hg]; exact Nat.ne_of_gt (blk_lt (g := gb149) (o := .cells #[.int .i64 t141, .int .i64 t142, .string t143, .int .i64 t144, .slice Ao23 t145.length co23] 24 (0, 0)) (by (with_reducible repeat (first | refine blk_drewN ?_ _ | refine blk_drew ?_ | refine blk_alloc ?_ _)); exact BK149.out)) : gb168 ≠ gb149)); clear HO_6; clear HO_8; clear HO_150004; clear HO159; clear HO166; clear BK149; clear HR156; clear HB; have HO_6 := n0_; have HO_8 := n1_; have HO_150004 := n2_; have HO159 := n3_; have HO166 := n4_; have BK149 := n5_; have HR156 := n6_; have HB := n7_; have BK168 := n8_; have GW168 := n9_; have GE168 := n10_; have NB149_168 := n11_; have NB168_149 := n12_; clear n0_ n1_ n2_ n3_ n4_ n5_ n6_ n7_ n8_ n9_ n10_ n11_ n12_; clear hb hbox hg; have hnb61 := NB168_149.out; have hnc61 := NB149_168.out; have hcz62_0 : w60.cell? ⟨gb168, 0, none⟩ = some (.int .i64 0) := (blk_cell BK168.out 0).trans rfl; have hcz62_1 : w60.cell? ⟨gb168, 1, none⟩ = some (.int .i64 0) := (blk_cell BK168.out 1).trans rfl; have hcz62_2 : w60.cell? ⟨gb168, 2, none⟩ = some (.string (⟨#[]⟩ : ByteArray)) := (blk_cell BK168.out 2).trans rfl; have hcz62_3 : w60.cell? ⟨gb168, 3, none⟩ = some (.int .i64 0) := (blk_cell BK168.out 3).trans rfl; have hcz62_4 : w60.cell? ⟨gb168, 4, none⟩ = some (.slice none 0 0) := (blk_cell BK168.out 4).trans rfl; have hfz62_0 := blk_frozen BK168.out 0; have hfz62_1 := blk_frozen BK168.out 1; have hfz62_2 := blk_frozen BK168.out 2; have hfz62_3 := blk_frozen BK168.out 3; have hfz62_4 := blk_frozen BK168.out 4; obtain ⟨Ao63, co63, eo63⟩ := Kd.R_slice HO166.out; subst eo63))
                            go_ret
                            exact ⟨by first | rfl | (simp [errW_none, errW_some] <;> rfl) | (simp only [← hji3]; first | rfl | (simp [errW_none, errW_some] <;> rfl)) | (simp [*, errW_none, errW_some] <;> rfl), by repeat (first | (with_reducible first | exact HB.out | apply below_alloc | apply pw_below_drewN | apply below_drew1 | refine below_set ?_ GE149.out | refine below_set ?_ GE168.out) | exact HB.out)⟩
                          · rw [if_neg c53] at H
                            exact absurd H (by simp)
                        · replace c52 := Bool.eq_false_iff.mpr c52
                          subst c52
                          have H1 : (none) = some r := by rw [if_neg (show ¬ (false = true) by decide)] at H; exact H
                          clear H
                          have H := H1
                          clear H1
                          exact absurd H (by simp)
                    · rw [if_neg c33] at H
                      exact absurd H (by simp)
                  · rw [if_neg c32] at H
                    exact absurd H (by simp)
    · rw [if_neg c5] at H
      exact absurd H (by simp)
  · rw [if_neg c4] at H
    exact absurd H (by simp)

/-- THE ONE PURE STATEMENT of sluicewaylaw01_DerTexts: yours. -/
def sluicewaylaw01_DerTexts.Pure : Prop := ∀ (a0 : ByteArray), a0.size ≤ 140737488351232 → ∃ k, sluicewaylaw01_DerTexts.f k a0 = some true
theorem sluicewaylaw01_DerTexts.walk (P : sluicewaylaw01_DerTexts.Pure) (a0 : ByteArray) (w : World) (w0 : a0.size ≤ 140737488351232) :
    Calls Try.prog 10 #[.string a0] w fun e w' => e = .returned (.bool true) ∧ Below w.heap.size w w' := by
  obtain ⟨k, h⟩ := P a0 w0
  refine (sluicewaylaw01_DerTexts.calls k a0 true w h).mono ?_
  rintro e w' ⟨rfl, hd⟩
  exact ⟨rfl, hd⟩

end Go.Proofs.Ytpphoifjhhidfaa.GDerTexts
