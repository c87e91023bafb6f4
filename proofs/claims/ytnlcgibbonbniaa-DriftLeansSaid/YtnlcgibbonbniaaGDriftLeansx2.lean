-- Printed by a program of this session's own (the kit's print, patched: wip/scripts/patch.py), for this claim. Not trusted: Lean checks it.
import Derived.Test.YtnlcgibbonbniaaGDriftLeansx0
import Derived.Test.YtnlcgibbonbniaaGDriftLeansx1
namespace Go.Proofs.Ytnlcgibbonbniaa.GDriftLeans
open Go.RowKit Go.Proofs.YtnlcgibbonbniaaW.PrintWords Go.Proofs.YtnlcgibbonbniaaW.PrintLast Go.Proofs.YtnlcgibbonbniaaW.PrintMore
attribute [local go_sem] max2_int min2_int max_two min_two max_three min_three max_four min_four   -- for this text's walks alone
set_option linter.unusedVariables false
set_option linter.unusedSimpArgs false

/-! ### sluicewaylaw06_DriftLeans: function 7 -/
mutual
def sluicewaylaw06_DriftLeans.l0 : Nat → Int → Int → List Int → Bool → Int → Cx → Int → Option (Bool)
  | 0, _, _, _, _, _, _, _ => none
  | k + 1, x0, x1, x2, x7, x9, x131000, x131001 => if x9 < x1 then ((drift_Drift_Add.f x131000 x131001 x0).bind fun bt131 => (sluicewaylaw06_DriftLeans.l0 k x0 x1 x2 x7 (wrap64 (x9 + 1)) bt131.1 bt131.2)) else ((drift_Drift_Lean.f k x131000 x131001).bind fun bt133 => (if bt133.2 = true then ((sluicewayref06_Mod.f x0).bind fun t135 => (if bt133.1 = t135 then ((drift_Drift_Spread.f k x131000 x131001).bind fun t136 => (sluicewaylaw06_DriftLeans.j1 k x0 x1 x2 x7 (t136 != 0) x131000 x131001)) else (sluicewaylaw06_DriftLeans.j1 k x0 x1 x2 x7 true x131000 x131001))) else (sluicewaylaw06_DriftLeans.j1 k x0 x1 x2 x7 true x131000 x131001)))
def sluicewaylaw06_DriftLeans.j1 : Nat → Int → Int → List Int → Bool → Bool → Cx → Int → Option (Bool)
  | 0, _, _, _, _, _, _, _ => none
  | k + 1, x0, x1, x2, x7, x45, x131000, x131001 => if x45 = true then (none) else (sluicewaylaw06_DriftLeans.l1 k x0 x1 x2 x7 0 x131000 x131001)
def sluicewaylaw06_DriftLeans.j3 : Nat → Int → Bool → Cx → Int → Option (Bool)
  | 0, _, _, _, _ => none
  | k + 1, x0, x7, x131000, x131001 => (drift_Drift_Lean.f k x131000 x131001).bind fun bt140 => ((drift_Drift_Shift.f x131000 x131001 1).bind fun bt142 => ((drift_Drift_Lean.f k bt142.1 bt142.2).bind fun bt144 => (if x7 = true then (if bt140.2 = true then (if bt144.2 = true then ((sluicewayref06_Mod.f x0).bind fun t146 => (if bt140.1 = t146 then (some (bt144.1 == (Int.tmod (wrap64 (bt140.1 + 1)) 4))) else (none))) else (none)) else (none)) else (none))))
def sluicewaylaw06_DriftLeans.l1 : Nat → Int → Int → List Int → Bool → Int → Cx → Int → Option (Bool)
  | 0, _, _, _, _, _, _, _ => none
  | k + 1, x0, x1, x2, x7, x12, x131000, x131001 => if x12 < (x2.length : Int) then (if (wrap64 ((wrap64 (2 * x12)) + 2)) < x1 then (if 0 ≤ x12 then ((drift_Drift_Add.f x131000 x131001 (rd x2 x12)).bind fun bt138 => (sluicewaylaw06_DriftLeans.l1 k x0 x1 x2 x7 (wrap64 (x12 + 1)) bt138.1 bt138.2)) else (none)) else (sluicewaylaw06_DriftLeans.j3 k x0 x7 x131000 x131001)) else (sluicewaylaw06_DriftLeans.j3 k x0 x7 x131000 x131001)
end
def sluicewaylaw06_DriftLeans.f (k : Nat) (a0 : Int) (a1 : Int) (l2 : List Int) : Option (Bool) := (sluicewaylaw06_shown.f k).bind fun t129 => (sluicewaylaw06_DriftLeans.l0 k a0 (wrap64 (1 + (Go.bits .and .i64 a1 1023))) l2 t129 0 (⟨0, 0⟩ : Cx) 0)
theorem sluicewaylaw06_DriftLeans.mono_l : ∀ k, (∀ y0 y1 y2 y3 y4 y5 y6, LeO (sluicewaylaw06_DriftLeans.l0 k y0 y1 y2 y3 y4 y5 y6) (sluicewaylaw06_DriftLeans.l0 (k + 1) y0 y1 y2 y3 y4 y5 y6)) ∧ (∀ y0 y1 y2 y3 y4 y5 y6, LeO (sluicewaylaw06_DriftLeans.j1 k y0 y1 y2 y3 y4 y5 y6) (sluicewaylaw06_DriftLeans.j1 (k + 1) y0 y1 y2 y3 y4 y5 y6)) ∧ (∀ y0 y1 y2 y3, LeO (sluicewaylaw06_DriftLeans.j3 k y0 y1 y2 y3) (sluicewaylaw06_DriftLeans.j3 (k + 1) y0 y1 y2 y3)) ∧ (∀ y0 y1 y2 y3 y4 y5 y6, LeO (sluicewaylaw06_DriftLeans.l1 k y0 y1 y2 y3 y4 y5 y6) (sluicewaylaw06_DriftLeans.l1 (k + 1) y0 y1 y2 y3 y4 y5 y6))
  | 0 => ⟨fun _ _ _ _ _ _ _ r h => by simp [sluicewaylaw06_DriftLeans.l0] at h, fun _ _ _ _ _ _ _ r h => by simp [sluicewaylaw06_DriftLeans.j1] at h, fun _ _ _ _ r h => by simp [sluicewaylaw06_DriftLeans.j3] at h, fun _ _ _ _ _ _ _ r h => by simp [sluicewaylaw06_DriftLeans.l1] at h⟩
  | k + 1 => by
    obtain ⟨ih0, ih1, ih2, ih3⟩ := sluicewaylaw06_DriftLeans.mono_l k
    refine ⟨?_, ?_, ?_, ?_⟩
    · intro y0 y1 y2 y3 y4 y5 y6
      unfold sluicewaylaw06_DriftLeans.l0
      repeat' first
      | (with_reducible exact ih0 _ _ _ _ _ _ _)
      | (with_reducible exact ih1 _ _ _ _ _ _ _)
      | (with_reducible exact ih2 _ _ _ _)
      | (with_reducible exact ih3 _ _ _ _ _ _ _)
      | (with_reducible exact drift_Drift_Lean.mono _ _ _)
      | (with_reducible exact drift_Drift_Spread.mono _ _ _)
      | (with_reducible exact sluicewaylaw06_shown.mono _)
      | (with_reducible exact LeO.refl _)
      | (with_reducible exact LeO.none _)
      | (with_reducible refine LeO.ite ?_ ?_)
      | (with_reducible refine LeO.bind ?_ (fun _ => ?_))
      | exact ih0 _ _ _ _ _ _ _
      | exact ih1 _ _ _ _ _ _ _
      | exact ih2 _ _ _ _
      | exact ih3 _ _ _ _ _ _ _
      | exact drift_Drift_Lean.mono _ _ _
      | exact drift_Drift_Spread.mono _ _ _
      | exact sluicewaylaw06_shown.mono _
      | exact LeO.none _
      | refine LeO.ite ?_ ?_
      | refine LeO.bind ?_ (fun _ => ?_)
    · intro y0 y1 y2 y3 y4 y5 y6
      unfold sluicewaylaw06_DriftLeans.j1
      repeat' first
      | (with_reducible exact ih0 _ _ _ _ _ _ _)
      | (with_reducible exact ih1 _ _ _ _ _ _ _)
      | (with_reducible exact ih2 _ _ _ _)
      | (with_reducible exact ih3 _ _ _ _ _ _ _)
      | (with_reducible exact drift_Drift_Lean.mono _ _ _)
      | (with_reducible exact drift_Drift_Spread.mono _ _ _)
      | (with_reducible exact sluicewaylaw06_shown.mono _)
      | (with_reducible exact LeO.refl _)
      | (with_reducible exact LeO.none _)
      | (with_reducible refine LeO.ite ?_ ?_)
      | (with_reducible refine LeO.bind ?_ (fun _ => ?_))
      | exact ih0 _ _ _ _ _ _ _
      | exact ih1 _ _ _ _ _ _ _
      | exact ih2 _ _ _ _
      | exact ih3 _ _ _ _ _ _ _
      | exact drift_Drift_Lean.mono _ _ _
      | exact drift_Drift_Spread.mono _ _ _
      | exact sluicewaylaw06_shown.mono _
      | exact LeO.none _
      | refine LeO.ite ?_ ?_
      | refine LeO.bind ?_ (fun _ => ?_)
    · intro y0 y1 y2 y3
      unfold sluicewaylaw06_DriftLeans.j3
      repeat' first
      | (with_reducible exact ih0 _ _ _ _ _ _ _)
      | (with_reducible exact ih1 _ _ _ _ _ _ _)
      | (with_reducible exact ih2 _ _ _ _)
      | (with_reducible exact ih3 _ _ _ _ _ _ _)
      | (with_reducible exact drift_Drift_Lean.mono _ _ _)
      | (with_reducible exact drift_Drift_Spread.mono _ _ _)
      | (with_reducible exact sluicewaylaw06_shown.mono _)
      | (with_reducible exact LeO.refl _)
      | (with_reducible exact LeO.none _)
      | (with_reducible refine LeO.ite ?_ ?_)
      | (with_reducible refine LeO.bind ?_ (fun _ => ?_))
      | exact ih0 _ _ _ _ _ _ _
      | exact ih1 _ _ _ _ _ _ _
      | exact ih2 _ _ _ _
      | exact ih3 _ _ _ _ _ _ _
      | exact drift_Drift_Lean.mono _ _ _
      | exact drift_Drift_Spread.mono _ _ _
      | exact sluicewaylaw06_shown.mono _
      | exact LeO.none _
      | refine LeO.ite ?_ ?_
      | refine LeO.bind ?_ (fun _ => ?_)
    · intro y0 y1 y2 y3 y4 y5 y6
      unfold sluicewaylaw06_DriftLeans.l1
      repeat' first
      | (with_reducible exact ih0 _ _ _ _ _ _ _)
      | (with_reducible exact ih1 _ _ _ _ _ _ _)
      | (with_reducible exact ih2 _ _ _ _)
      | (with_reducible exact ih3 _ _ _ _ _ _ _)
      | (with_reducible exact drift_Drift_Lean.mono _ _ _)
      | (with_reducible exact drift_Drift_Spread.mono _ _ _)
      | (with_reducible exact sluicewaylaw06_shown.mono _)
      | (with_reducible exact LeO.refl _)
      | (with_reducible exact LeO.none _)
      | (with_reducible refine LeO.ite ?_ ?_)
      | (with_reducible refine LeO.bind ?_ (fun _ => ?_))
      | exact ih0 _ _ _ _ _ _ _
      | exact ih1 _ _ _ _ _ _ _
      | exact ih2 _ _ _ _
      | exact ih3 _ _ _ _ _ _ _
      | exact drift_Drift_Lean.mono _ _ _
      | exact drift_Drift_Spread.mono _ _ _
      | exact sluicewaylaw06_shown.mono _
      | exact LeO.none _
      | refine LeO.ite ?_ ?_
      | refine LeO.bind ?_ (fun _ => ?_)
theorem sluicewaylaw06_DriftLeans.mono : ∀ a0 a1 a2 k, LeO (sluicewaylaw06_DriftLeans.f k a0 a1 a2) (sluicewaylaw06_DriftLeans.f (k + 1) a0 a1 a2) := by
  intro a0 a1 a2 k
  obtain ⟨ih0, ih1, ih2, ih3⟩ := sluicewaylaw06_DriftLeans.mono_l k
  unfold sluicewaylaw06_DriftLeans.f
  repeat' first
      | (with_reducible exact ih0 _ _ _ _ _ _ _)
      | (with_reducible exact ih1 _ _ _ _ _ _ _)
      | (with_reducible exact ih2 _ _ _ _)
      | (with_reducible exact ih3 _ _ _ _ _ _ _)
      | (with_reducible exact drift_Drift_Lean.mono _ _ _)
      | (with_reducible exact drift_Drift_Spread.mono _ _ _)
      | (with_reducible exact sluicewaylaw06_shown.mono _)
      | (with_reducible exact LeO.refl _)
      | (with_reducible exact LeO.none _)
      | (with_reducible refine LeO.ite ?_ ?_)
      | (with_reducible refine LeO.bind ?_ (fun _ => ?_))
      | exact ih0 _ _ _ _ _ _ _
      | exact ih1 _ _ _ _ _ _ _
      | exact ih2 _ _ _ _
      | exact ih3 _ _ _ _ _ _ _
      | exact drift_Drift_Lean.mono _ _ _
      | exact drift_Drift_Spread.mono _ _ _
      | exact sluicewaylaw06_shown.mono _
      | exact LeO.none _
      | refine LeO.ite ?_ ?_
      | refine LeO.bind ?_ (fun _ => ?_)
set_option maxHeartbeats 8000000 in
set_option maxRecDepth 100000 in
theorem sluicewaylaw06_DriftLeans.calls (k : Nat) (a0 : Int) (a1 : Int) (A2 : Option Addr) (c2 : Nat) (l2 : List Int) (r : Bool) (w : World) (hr2 : Kd.C (Kd.int .i64) w A2 l2.length l2) (hc2 : l2.length ≤ c2) (h : sluicewaylaw06_DriftLeans.f k a0 a1 l2 = some r) :
    Calls Try.prog 7 #[.int .i64 a0, .int .i64 a1, .slice A2 l2.length c2] w fun e w' => e = .returned (.bool r) ∧ Below w.heap.size w w' := by
  have hu26 := Try.underlying26
  have HR2 := Aside0.mk hr2
  have HC2 := Aside0.mk hc2
  clear hr2 hc2
  have HB := Aside0.mk (Below.refl w.heap.size w)
  have H : ((sluicewaylaw06_shown.f k).bind fun t129 => (sluicewaylaw06_DriftLeans.l0 k a0 (wrap64 (1 + (Go.bits .and .i64 a1 1023))) l2 t129 0 (⟨0, 0⟩ : Cx) 0)) = some r := h
  clear h
  replace H := Option.bind_eq_some_iff.mp H
  obtain ⟨t129, A40, H⟩ := H
  replace H : (sluicewaylaw06_DriftLeans.l0 k a0 (wrap64 (1 + (Go.bits .and .i64 a1 1023))) l2 t129 0 (⟨0, 0⟩ : Cx) 0) = some r := H
  have A4 := Aside0.mk A40
  clear A40
  have H' := Aside0.mk H
  clear H
  go_enter Try.func7, Try.ntmps7
  go_wp2_with (first | ((with_reducible refine gate_callee (f := 8) rfl ?_); refine goesL_ (some 15) rfl rfl Try.func8 (by kernel_rfl) rfl #[] rfl (by (try simp only [List.map_toArray, List.map_cons, List.map_nil]); first | done | rfl | (simp only [List.length_drop, List.length_take]; rfl)) ?_; (with_reducible refine (sluicewaylaw06_shown.calls k  t129 _ A4.out).mono ?_); rintro e w5 ⟨rfl, hb⟩; refine ⟨_, rfl, ?_⟩; have n0_ := Aside0.mk (below_step (by repeat (first | (with_reducible first | exact HB.out | apply below_alloc | apply pw_below_drewN | apply below_drew1) | exact HB.out)) hb); clear HB; have HB := n0_; clear n0_; (try clear hb); (try clear hb2); (try clear hk); (try clear hi)) | ((with_reducible refine gate_dst (N := 8) rfl ?_); refine box_event ?hg (N := 8) ?hd (cs := #[.complex .f64 0 0, .int .i64 0]) (t := 26) ?hr ?_; (case hd => rfl); (case hg => rfl); (case hr => first | (go_simp; done) | (go_simp; rfl)); intro gb130 hg w6 hbox hb; have n0_ := Aside0.mk (below_step (by repeat (first | (with_reducible first | exact HB.out | apply below_alloc | apply pw_below_drewN | apply below_drew1) | exact HB.out)) hb); have n1_ := Aside0.mk (hbox); have n2_ := Aside0.mk ((by rw [hg]; exact (below_size (by repeat (first | (with_reducible first | exact HB.out | apply below_alloc | apply pw_below_drewN | apply below_drew1) | exact HB.out))) : w.heap.size ≤ gb130)); have n3_ := Aside0.mk ((by rw [hg]; exact (below_size (by repeat (first | (with_reducible first | exact HB.out | apply below_alloc | apply pw_below_drewN | apply below_drew1) | exact HB.out))) : w.heap.size ≤ gb130)); clear HB; have HB := n0_; have BK130 := n1_; have GW130 := n2_; have GE130 := n3_; clear n0_ n1_ n2_ n3_; clear hb hbox hg; have hcz7_0 : w6.cell? ⟨gb130, 0, none⟩ = some (.complex .f64 0 0) := (blk_cell BK130.out 0).trans rfl; have hcz7_1 : w6.cell? ⟨gb130, 1, none⟩ = some (.int .i64 0) := (blk_cell BK130.out 1).trans rfl; have hfz7_0 := blk_frozen BK130.out 0; have hfz7_1 := blk_frozen BK130.out 1))
  go_loopg [9] k (fun kq v9 w' => ∃ (x9_1 : Int) (x131000_1 : Cx) (x131001_1 : Int), v9 = .int .i64 x9_1 ∧ Aside0 (sluicewaylaw06_DriftLeans.l0 kq a0 (wrap64 (1 + (Go.bits .and .i64 a1 1023))) l2 t129 x9_1 x131000_1 x131001_1 = some r) ∧ Aside0 (kq ≤ k) ∧ Aside0 (w'.heap[gb130]? = some (.cells #[.complex .f64 x131000_1.re x131000_1.im, .int .i64 x131001_1] 26 (0, 0))) ∧ Aside0 (Below w.heap.size w w'))
  case atStart => exact ⟨(0), ((⟨0, 0⟩ : Cx)), (0), (by first | rfl | (simp; done) | (simp [*]; done)), H', ⟨Nat.le_refl _⟩, ⟨by (with_reducible repeat (first | refine blk_drewN ?_ _ | refine blk_drew ?_ | refine blk_alloc ?_ _)); refine blk_put (cs := #[.complex .f64 0 0, .int .i64 0]) ?_ 1 _ rfl; (with_reducible repeat (first | refine blk_drewN ?_ _ | refine blk_drew ?_ | refine blk_alloc ?_ _)); refine blk_put (cs := #[.complex .f64 0 0, .int .i64 0]) ?_ 0 _ rfl; (with_reducible repeat (first | refine blk_drewN ?_ _ | refine blk_drew ?_ | refine blk_alloc ?_ _)); exact BK130.out⟩, ⟨by repeat (first | (with_reducible first | exact HB.out | apply below_alloc | apply pw_below_drewN | apply below_drew1 | refine below_set ?_ GE130.out) | exact HB.out)⟩⟩
  case round =>
    clear H'
    try clear c2
    try clear p2
    try clear p6
    try clear c7
    try clear hcz7_0
    try clear hcz7_1
    try clear hfz7_0
    try clear hfz7_1
    obtain ⟨x9_1, x131000_1, x131001_1, rfl, HA, HK1, BK130, HB⟩ := hrel
    cases gk with
    | zero => exact absurd HA.out (by simp [sluicewaylaw06_DriftLeans.l0])
    | succ k1 =>
      have H := HA.out
      clear HA
      simp only [sluicewaylaw06_DriftLeans.l0] at H
      by_cases c8 : x9_1 < (wrap64 (1 + (Go.bits .and .i64 a1 1023)))
      · rw [if_pos c8] at H
        have c8b0 : decide (x9_1 < (wrap64 (1 + (Go.bits .and .i64 a1 1023)))) = true := decide_eq_true c8
        clear c8
        replace H := Option.bind_eq_some_iff.mp H
        obtain ⟨⟨t131, t132⟩, A90, H⟩ := H
        replace H : (sluicewaylaw06_DriftLeans.l0 k1 a0 (wrap64 (1 + (Go.bits .and .i64 a1 1023))) l2 t129 (wrap64 (x9_1 + 1)) t131 t132) = some r := H
        have A9 := Aside0.mk A90
        clear A90
        have H' := Aside0.mk H
        clear H
        have hcz10_0 : wr.cell? ⟨gb130, 0, none⟩ = some (.complex .f64 x131000_1.re x131000_1.im) := (blk_cell BK130.out 0).trans rfl
        have hcz10_1 : wr.cell? ⟨gb130, 1, none⟩ = some (.int .i64 x131001_1) := (blk_cell BK130.out 1).trans rfl
        have hfz10_0 := blk_frozen BK130.out 0
        have hfz10_1 := blk_frozen BK130.out 1
        go_wp2_with (first | ((with_reducible refine gate_callee (f := 13) rfl ?_); refine goesL_ (some 27) rfl rfl Try.func13 (by kernel_rfl) rfl #[.agg #[.complex .f64 x131000_1.re x131000_1.im, .int .i64 x131001_1], .int .i64 a0] rfl (by (try simp only [List.map_toArray, List.map_cons, List.map_nil]); first | done | rfl | (simp only [List.length_drop, List.length_take]; rfl)) ?_; (with_reducible refine (drift_Drift_Add.calls x131000_1 x131001_1 a0 t131 t132 _ A9.out).mono ?_); rintro e w11 ⟨rfl, hb⟩; refine ⟨_, rfl, ?_⟩; have n0_ := Aside0.mk (blk_below (g := gb130) (o := .cells #[.complex .f64 x131000_1.re x131000_1.im, .int .i64 x131001_1] 26 (0, 0)) (by (with_reducible repeat (first | refine blk_drewN ?_ _ | refine blk_drew ?_ | refine blk_alloc ?_ _)); exact BK130.out) hb); have n1_ := Aside0.mk (below_step (by repeat (first | (with_reducible first | exact HB.out | apply below_alloc | apply pw_below_drewN | apply below_drew1 | refine below_set ?_ GE130.out) | exact HB.out)) hb); clear BK130; clear HB; have BK130 := n0_; have HB := n1_; clear n0_ n1_; (try clear hb); (try clear hb2); (try clear hk); (try clear hi); have hcz12_0 : w11.cell? ⟨gb130, 0, none⟩ = some (.complex .f64 x131000_1.re x131000_1.im) := (blk_cell BK130.out 0).trans rfl; have hcz12_1 : w11.cell? ⟨gb130, 1, none⟩ = some (.int .i64 x131001_1) := (blk_cell BK130.out 1).trans rfl; have hfz12_0 := blk_frozen BK130.out 0; have hfz12_1 := blk_frozen BK130.out 1))
        go_roundg k1
        case measure => have := HK1.out; omega
        case rel => exact ⟨(wrap64 (x9_1 + 1)), (t131), (t132), (by first | rfl | (simp; done) | (simp [*]; done)), H', ⟨by have := HK1.out; omega⟩, ⟨by (with_reducible repeat (first | refine blk_drewN ?_ _ | refine blk_drew ?_ | refine blk_alloc ?_ _)); refine blk_put (cs := #[.complex .f64 t131.re t131.im, .int .i64 x131001_1]) ?_ 1 _ rfl; (with_reducible repeat (first | refine blk_drewN ?_ _ | refine blk_drew ?_ | refine blk_alloc ?_ _)); refine blk_put (cs := #[.complex .f64 x131000_1.re x131000_1.im, .int .i64 x131001_1]) ?_ 0 _ rfl; (with_reducible repeat (first | refine blk_drewN ?_ _ | refine blk_drew ?_ | refine blk_alloc ?_ _)); exact BK130.out⟩, ⟨by repeat (first | (with_reducible first | exact HB.out | apply below_alloc | apply pw_below_drewN | apply below_drew1 | refine below_set ?_ GE130.out) | exact HB.out)⟩⟩
      · rw [if_neg c8] at H
        have c8b0 : decide (x9_1 < (wrap64 (1 + (Go.bits .and .i64 a1 1023)))) = false := decide_eq_false c8
        clear c8
        replace H := Option.bind_eq_some_iff.mp H
        obtain ⟨⟨t133, t134⟩, A130, H⟩ := H
        replace H : (if t134 = true then ((sluicewayref06_Mod.f a0).bind fun t135 => (if t133 = t135 then ((drift_Drift_Spread.f k1 x131000_1 x131001_1).bind fun t136 => (sluicewaylaw06_DriftLeans.j1 k1 a0 (wrap64 (1 + (Go.bits .and .i64 a1 1023))) l2 t129 (t136 != 0) x131000_1 x131001_1)) else (sluicewaylaw06_DriftLeans.j1 k1 a0 (wrap64 (1 + (Go.bits .and .i64 a1 1023))) l2 t129 true x131000_1 x131001_1))) else (sluicewaylaw06_DriftLeans.j1 k1 a0 (wrap64 (1 + (Go.bits .and .i64 a1 1023))) l2 t129 true x131000_1 x131001_1)) = some r := H
        have A13 := Aside0.mk A130
        clear A130
        have HC14 := Aside0.mk H
        clear H
        have hcz15_0 : wr.cell? ⟨gb130, 0, none⟩ = some (.complex .f64 x131000_1.re x131000_1.im) := (blk_cell BK130.out 0).trans rfl
        have hcz15_1 : wr.cell? ⟨gb130, 1, none⟩ = some (.int .i64 x131001_1) := (blk_cell BK130.out 1).trans rfl
        have hfz15_0 := blk_frozen BK130.out 0
        have hfz15_1 := blk_frozen BK130.out 1
        go_upto_region 9 with (first | ((with_reducible refine gate_callee (f := 12) rfl ?_); refine goesL_ (some 30) rfl rfl Try.func12 (by kernel_rfl) rfl #[.agg #[.complex .f64 x131000_1.re x131000_1.im, .int .i64 x131001_1]] rfl (by (try simp only [List.map_toArray, List.map_cons, List.map_nil]); first | done | rfl | (simp only [List.length_drop, List.length_take]; rfl)) ?_; (with_reducible refine (drift_Drift_Lean.calls k1 x131000_1 x131001_1 t133 t134 _ A13.out).mono ?_); rintro e w16 ⟨rfl, hb⟩; refine ⟨_, rfl, ?_⟩; have n0_ := Aside0.mk (blk_below (g := gb130) (o := .cells #[.complex .f64 x131000_1.re x131000_1.im, .int .i64 x131001_1] 26 (0, 0)) (by (with_reducible repeat (first | refine blk_drewN ?_ _ | refine blk_drew ?_ | refine blk_alloc ?_ _)); exact BK130.out) hb); have n1_ := Aside0.mk (below_step (by repeat (first | (with_reducible first | exact HB.out | apply below_alloc | apply pw_below_drewN | apply below_drew1 | refine below_set ?_ GE130.out) | exact HB.out)) hb); clear BK130; clear HB; have BK130 := n0_; have HB := n1_; clear n0_ n1_; (try clear hb); (try clear hb2); (try clear hk); (try clear hi)))
        (try simp only [Act.put, List.setIfInBounds_toArray, List.set_cons_zero, List.set_cons_succ])
        go_cut [45] (fun v45 wc => ∃ (kq : Nat) (x45_13 : Bool), v45 = .bool x45_13 ∧ Aside0 (sluicewaylaw06_DriftLeans.j1 kq a0 (wrap64 (1 + (Go.bits .and .i64 a1 1023))) l2 t129 x45_13 x131000_1 x131001_1 = some r) ∧ Aside0 (kq ≤ k1) ∧ Aside0 (wc.heap[gb130]? = some (.cells #[.complex .f64 x131000_1.re x131000_1.im, .int .i64 x131001_1] 26 (0, 0))) ∧ Aside0 (Below w.heap.size w wc))
        case first =>
          have H := HC14.out
          clear HC14
          by_cases c17 : t134 = true
          · subst c17
            have H1 : ((sluicewayref06_Mod.f a0).bind fun t135 => (if t133 = t135 then ((drift_Drift_Spread.f k1 x131000_1 x131001_1).bind fun t136 => (sluicewaylaw06_DriftLeans.j1 k1 a0 (wrap64 (1 + (Go.bits .and .i64 a1 1023))) l2 t129 (t136 != 0) x131000_1 x131001_1)) else (sluicewaylaw06_DriftLeans.j1 k1 a0 (wrap64 (1 + (Go.bits .and .i64 a1 1023))) l2 t129 true x131000_1 x131001_1))) = some r := by rw [if_pos rfl] at H; exact H
            clear H
            have H := H1
            clear H1
            replace H := Option.bind_eq_some_iff.mp H
            obtain ⟨t135, A180, H⟩ := H
            replace H : (if t133 = t135 then ((drift_Drift_Spread.f k1 x131000_1 x131001_1).bind fun t136 => (sluicewaylaw06_DriftLeans.j1 k1 a0 (wrap64 (1 + (Go.bits .and .i64 a1 1023))) l2 t129 (t136 != 0) x131000_1 x131001_1)) else (sluicewaylaw06_DriftLeans.j1 k1 a0 (wrap64 (1 + (Go.bits .and .i64 a1 1023))) l2 t129 true x131000_1 x131001_1)) = some r := H
            have A18 := Aside0.mk A180
            clear A180
            by_cases c19 : t133 = t135
            · rw [if_pos c19] at H
              have c19b0 : (t133 == t135) = true := beq_iff_eq.mpr c19
              have c19b1 : (t133 != t135) = false := bne_eq_false_iff_eq.mpr c19
              clear c19
              (first | rw [c19b0] | (simp only [i64_w, i32_w]; rw [c19b0]) | skip)
              replace H := Option.bind_eq_some_iff.mp H
              obtain ⟨t136, A200, H⟩ := H
              replace H : (sluicewaylaw06_DriftLeans.j1 k1 a0 (wrap64 (1 + (Go.bits .and .i64 a1 1023))) l2 t129 (t136 != 0) x131000_1 x131001_1) = some r := H
              have A20 := Aside0.mk A200
              clear A200
              have H' := Aside0.mk H
              clear H
              go_wp2_with (first | (go_at_call 10; (with_reducible refine (sluicewayref06_Mod.calls a0 t135 _ A18.out).mono ?_); rintro e w' ⟨rfl, ⟨nd, rfl⟩⟩; have hcz21_0 : w16.cell? ⟨gb130, 0, none⟩ = some (.complex .f64 x131000_1.re x131000_1.im) := (blk_cell BK130.out 0).trans rfl; have hcz21_1 : w16.cell? ⟨gb130, 1, none⟩ = some (.int .i64 x131001_1) := (blk_cell BK130.out 1).trans rfl; have hfz21_0 := blk_frozen BK130.out 0; have hfz21_1 := blk_frozen BK130.out 1) | (go_at_call 11; (with_reducible refine (drift_Drift_Spread.calls k1 x131000_1 x131001_1 t136 _ A20.out).mono ?_); rintro e w22 ⟨rfl, hb⟩; have n0_ := Aside0.mk (blk_below (g := gb130) (o := .cells #[.complex .f64 x131000_1.re x131000_1.im, .int .i64 x131001_1] 26 (0, 0)) (by (with_reducible repeat (first | refine blk_drewN ?_ _ | refine blk_drew ?_ | refine blk_alloc ?_ _)); exact BK130.out) hb); have n1_ := Aside0.mk (below_step (by repeat (first | (with_reducible first | exact HB.out | apply below_alloc | apply pw_below_drewN | apply below_drew1 | refine below_set ?_ GE130.out) | exact HB.out)) hb); clear BK130; clear HB; have BK130 := n0_; have HB := n1_; clear n0_ n1_; (try clear hb); (try clear hb2); (try clear hk); (try clear hi)))
              go_meet
              case rel => exact ⟨_, ((t136 != 0)), (by first | rfl | (simp; done) | (simp [*]; done)), H', ⟨by have := HK1.out; first | omega | exact Nat.le_refl _⟩, ⟨by (with_reducible repeat (first | refine blk_drewN ?_ _ | refine blk_drew ?_ | refine blk_alloc ?_ _)); exact BK130.out⟩, ⟨by repeat (first | (with_reducible first | exact HB.out | apply below_alloc | apply pw_below_drewN | apply below_drew1 | refine below_set ?_ GE130.out) | exact HB.out)⟩⟩
            · rw [if_neg c19] at H
              have c19b0 : (t133 == t135) = false := beq_eq_false_iff_ne.mpr c19
              have c19b1 : (t133 != t135) = true := bne_iff_ne.mpr c19
              (first | rw [c19b0] | (simp only [i64_w, i32_w]; rw [c19b0]) | skip)
              have H' := Aside0.mk H
              clear H
              go_wp2_with (first | (go_at_call 10; (with_reducible refine (sluicewayref06_Mod.calls a0 t135 _ A18.out).mono ?_); rintro e w' ⟨rfl, ⟨nd, rfl⟩⟩))
              go_meet
              case rel => exact ⟨_, (true), (by first | rfl | (simp; done) | (simp [*]; done)), H', ⟨by have := HK1.out; first | omega | exact Nat.le_refl _⟩, ⟨by (with_reducible repeat (first | refine blk_drewN ?_ _ | refine blk_drew ?_ | refine blk_alloc ?_ _)); exact BK130.out⟩, ⟨by repeat (first | (with_reducible first | exact HB.out | apply below_alloc | apply pw_below_drewN | apply below_drew1 | refine below_set ?_ GE130.out) | exact HB.out)⟩⟩
          · replace c17 := Bool.eq_false_iff.mpr c17
            subst c17
            have H1 : (sluicewaylaw06_DriftLeans.j1 k1 a0 (wrap64 (1 + (Go.bits .and .i64 a1 1023))) l2 t129 true x131000_1 x131001_1) = some r := by rw [if_neg (show ¬ (false = true) by decide)] at H; exact H
            clear H
            have H := H1
            clear H1
            have H' := Aside0.mk H
            clear H
            go_wp2
            go_meet
            case rel => exact ⟨_, (true), (by first | rfl | (simp; done) | (simp [*]; done)), H', ⟨by have := HK1.out; first | omega | exact Nat.le_refl _⟩, ⟨by (with_reducible repeat (first | refine blk_drewN ?_ _ | refine blk_drew ?_ | refine blk_alloc ?_ _)); exact BK130.out⟩, ⟨by repeat (first | (with_reducible first | exact HB.out | apply below_alloc | apply pw_below_drewN | apply below_drew1 | refine below_set ?_ GE130.out) | exact HB.out)⟩⟩
        case rest =>
          clear HC14
          try clear c1
          try clear c2
          try clear p2
          try clear p6
          try clear c7
          try clear c8
          try clear c8b0
          try clear c12
          try clear c13
          try clear c17
          try clear c19
          try clear c19b0
          try clear c19b1
          try clear hcz10_0
          try clear hcz10_1
          try clear hcz12_0
          try clear hcz12_1
          try clear hcz15_0
          try clear hcz15_1
          try clear hcz21_0
          try clear hcz21_1
          try clear hcz7_0
          try clear hcz7_1
          try clear hfz10_0
          try clear hfz10_1
          try clear hfz12_0
          try clear hfz12_1
          try clear hfz15_0
          try clear hfz15_1
          try clear hfz21_0
          try clear hfz21_1
          try clear hfz7_0
          try clear hfz7_1
          try clear p2
          try clear p6
          obtain ⟨kq, x45_13, rfl, HA, HJ13, BK130, HB⟩ := hcut
          cases kq with
          | zero => exact absurd HA.out (by simp [sluicewaylaw06_DriftLeans.j1])
          | succ kj13 =>
            have H := HA.out
            clear HA
            simp only [sluicewaylaw06_DriftLeans.j1] at H
            by_cases c23 : x45_13 = true
            · subst c23
              have H1 : (none) = some r := by rw [if_pos rfl] at H; exact H
              clear H
              have H := H1
              clear H1
              exact absurd H (by simp)
            · replace c23 := Bool.eq_false_iff.mpr c23
              subst c23
              have H1 : (sluicewaylaw06_DriftLeans.l1 kj13 a0 (wrap64 (1 + (Go.bits .and .i64 a1 1023))) l2 t129 0 x131000_1 x131001_1) = some r := by rw [if_neg (show ¬ (false = true) by decide)] at H; exact H
              clear H
              have H := H1
              clear H1
              have HC24 := Aside0.mk H
              clear H
              go_upto_block 2 with (fail)
              go_cut [] (fun wc => ∃ (kq : Nat) (x131000_23 : Cx) (x131001_23 : Int), Aside0 (sluicewaylaw06_DriftLeans.j3 kq a0 t129 x131000_23 x131001_23 = some r) ∧ Aside0 (kq ≤ kj13) ∧ Aside0 (wc.heap[gb130]? = some (.cells #[.complex .f64 x131000_23.re x131000_23.im, .int .i64 x131001_23] 26 (0, 0))) ∧ Aside0 (Below w.heap.size w wc))
              case first =>
                have H := HC24.out
                clear HC24
                have H' := Aside0.mk H
                clear H
                go_wp2
                go_loopg [12] kj13 (fun kq v12 w' => ∃ (x12_3 : Int) (x131000_3 : Cx) (x131001_3 : Int), v12 = .int .i64 x12_3 ∧ Aside0 (sluicewaylaw06_DriftLeans.l1 kq a0 (wrap64 (1 + (Go.bits .and .i64 a1 1023))) l2 t129 x12_3 x131000_3 x131001_3 = some r) ∧ Aside0 (kq ≤ kj13) ∧ Aside0 (w'.heap[gb130]? = some (.cells #[.complex .f64 x131000_3.re x131000_3.im, .int .i64 x131001_3] 26 (0, 0))) ∧ Aside0 (Below w.heap.size w w'))
                case atStart => exact ⟨(0), (x131000_1), (x131001_1), (by first | rfl | (simp; done) | (simp [*]; done)), H', ⟨Nat.le_refl _⟩, ⟨by (with_reducible repeat (first | refine blk_drewN ?_ _ | refine blk_drew ?_ | refine blk_alloc ?_ _)); exact BK130.out⟩, ⟨by repeat (first | (with_reducible first | exact HB.out | apply below_alloc | apply pw_below_drewN | apply below_drew1 | refine below_set ?_ GE130.out) | exact HB.out)⟩⟩
                case round =>
                  clear H'
                  try clear c1
                  try clear c2
                  try clear p2
                  try clear p6
                  try clear c7
                  try clear c8
                  try clear c8b0
                  try clear c12
                  try clear c13
                  try clear c17
                  try clear c19
                  try clear c19b0
                  try clear c19b1
                  try clear c23
                  try clear hcz10_0
                  try clear hcz10_1
                  try clear hcz12_0
                  try clear hcz12_1
                  try clear hcz15_0
                  try clear hcz15_1
                  try clear hcz21_0
                  try clear hcz21_1
                  try clear hcz7_0
                  try clear hcz7_1
                  try clear hfz10_0
                  try clear hfz10_1
                  try clear hfz12_0
                  try clear hfz12_1
                  try clear hfz15_0
                  try clear hfz15_1
                  try clear hfz21_0
                  try clear hfz21_1
                  try clear hfz7_0
                  try clear hfz7_1
                  try clear p2
                  try clear p6
                  obtain ⟨x12_3, x131000_3, x131001_3, rfl, HA, HK3, BK130, HB⟩ := hrel
                  cases gk with
                  | zero => exact absurd HA.out (by simp [sluicewaylaw06_DriftLeans.l1])
                  | succ k3 =>
                    have H := HA.out
                    clear HA
                    simp only [sluicewaylaw06_DriftLeans.l1] at H
                    by_cases c25 : x12_3 < (l2.length : Int)
                    · rw [if_pos c25] at H
                      have c25b0 : decide (x12_3 < (l2.length : Int)) = true := decide_eq_true c25
                      clear c25
                      (first | rw [c25b0] | (simp only [i64_w, i32_w]; rw [c25b0]) | skip)
                      by_cases c26 : (wrap64 ((wrap64 (2 * x12_3)) + 2)) < (wrap64 (1 + (Go.bits .and .i64 a1 1023)))
                      · rw [if_pos c26] at H
                        have c26b0 : decide ((wrap64 ((wrap64 (2 * x12_3)) + 2)) < (wrap64 (1 + (Go.bits .and .i64 a1 1023)))) = true := decide_eq_true c26
                        clear c26
                        by_cases c27 : 0 ≤ x12_3
                        · rw [if_pos c27] at H
                          have c27b0 : decide (0 ≤ x12_3) = true := decide_eq_true c27
                          clear c27
                          replace H := Option.bind_eq_some_iff.mp H
                          obtain ⟨⟨t138, t139⟩, A280, H⟩ := H
                          replace H : (sluicewaylaw06_DriftLeans.l1 k3 a0 (wrap64 (1 + (Go.bits .and .i64 a1 1023))) l2 t129 (wrap64 (x12_3 + 1)) t138 t139) = some r := H
                          have A28 := Aside0.mk A280
                          clear A280
                          have H' := Aside0.mk H
                          clear H
                          try go_wp2
                          have n0_ := Aside0.mk (blk_drew BK130.out)
                          have n1_ := Aside0.mk (below_drew1 HB.out)
                          clear BK130
                          clear HB
                          have BK130 := n0_
                          have HB := n1_
                          clear n0_ n1_
                          have p137 : 0 ≤ (x12_3 : Int) := of_decide_eq_true (by first | (with_reducible assumption) | assumption)
                          have q137 : x12_3 < (l2.length : Int) := of_decide_eq_true (by first | (with_reducible assumption) | assumption)
                          obtain ⟨ad137, e137, hx137_0⟩ := Kd.at_int HR2.out x12_3 p137 q137
                          have hw137_0 := hx137_0
                          cases e137
                          replace hx137_0 := (HB.out.cell (World.block_lt_of_cell? w _ hx137_0)).trans hx137_0
                          replace p137 := eq_true p137
                          replace q137 := eq_true q137
                          refine start_ (n := 7) (S := fun w' => w'.cell? ⟨gb130, 0, none⟩ = some (.complex .f64 x131000_3.re x131000_3.im) ∧ w'.cell? ⟨gb130, 1, none⟩ = some (.int .i64 x131001_3) ∧ w'.cell? (ad137.add (x12_3).toNat) = some (.int .i64 (rd l2 x12_3))) (ds := [6]) #[false, false, false, false, false, false, false] (by kernel_rfl) rfl rfl ⟨(blk_cell BK130.out 0).trans rfl, (blk_cell BK130.out 1).trans rfl, ((HB.out.cell (World.block_lt_of_cell? w _ hw137_0)).trans hw137_0)⟩ (fun hHeld => ?_)
                          generalize wr.drew = w29 at BK130 HB hx137_0 hHeld ⊢
                          refine pure_ (i := 1) (N := some 60) (v := ?_) (a' := ?_) #[false, true, false, false, false, false, false] rfl rfl (by kernel_rfl) (fun _ _ _ h => h) (Or.inl ⟨by rfl, ?_⟩) ?_ ?_
                          rotate_left
                          · intro w'
                            go_simp
                            with_reducible rfl
                          rotate_left
                          · simp only [Act.put, List.setIfInBounds_toArray, List.set_cons_zero, List.set_cons_succ, i64_w, i32_w]
                            rfl
                          refine pure_ (i := 2) (N := some 61) (v := ?_) (a' := ?_) #[false, true, true, false, false, false, false] rfl rfl (by kernel_rfl) (fun _ _ _ h => h) (Or.inl ⟨by rfl, ?_⟩) ?_ ?_
                          rotate_left
                          · intro w'
                            go_simp
                            with_reducible rfl
                          rotate_left
                          · simp only [Act.put, List.setIfInBounds_toArray, List.set_cons_zero, List.set_cons_succ, i64_w, i32_w]
                            rfl
                          refine pure_ (i := 3) (N := some 62) (v := ?_) (a' := ?_) #[false, true, true, true, false, false, false] rfl rfl (by kernel_rfl) (fun _ _ _ h => h) (Or.inl ⟨by rfl, ?_⟩) ?_ ?_
                          rotate_left
                          · intro w'
                            go_simp
                            with_reducible rfl
                          rotate_left
                          · simp only [Act.put, List.setIfInBounds_toArray, List.set_cons_zero, List.set_cons_succ, i64_w, i32_w]
                            rfl
                          refine take_ (i := 0) (N := some 59) (v := ?_) (a' := ?_) #[true, true, true, true, false, false, false] rfl rfl (by kernel_rfl) (fun _ _ _ h => h) (Or.inl ⟨by rfl, ?_⟩) hHeld ?_ ?_
                          rotate_left
                          · rintro w' ⟨s0, s1, s2⟩
                            go_simp
                            with_reducible rfl
                          rotate_left
                          · simp only [Act.put, List.setIfInBounds_toArray, List.set_cons_zero, List.set_cons_succ, i64_w, i32_w]
                            rfl
                          refine take_ (i := 4) (N := some 63) (v := ?_) (a' := ?_) #[true, true, true, true, true, false, false] rfl rfl (by kernel_rfl) (fun _ _ _ h => h) (Or.inl ⟨by rfl, ?_⟩) hHeld ?_ ?_
                          rotate_left
                          · rintro w' ⟨s0, s1, s2⟩
                            go_simp
                            with_reducible rfl
                          rotate_left
                          · simp only [Act.put, List.setIfInBounds_toArray, List.set_cons_zero, List.set_cons_succ, i64_w, i32_w]
                            rfl
                          refine one_ (i := 5) (N := some 64) #[true, true, true, true, true, true, false] rfl rfl (by kernel_rfl) (by decide) (fun K hK => ?_)
                          refine goes_ Try.func13 (by kernel_rfl) rfl #[.agg #[.complex .f64 x131000_3.re x131000_3.im, .int .i64 x131001_3], .int .i64 (rd l2 x12_3)] (by rfl) rfl rfl (by (try simp only [List.map_toArray, List.map_cons, List.map_nil]); first | done | rfl | (simp only [List.length_drop, List.length_take]; rfl)) ?_
                          with_reducible refine (drift_Drift_Add.calls x131000_3 x131001_3 (rd l2 x12_3) t138 t139 _ A28.out).mono ?_
                          rintro e w30 ⟨rfl, hb⟩
                          refine ⟨_, rfl, ?_⟩
                          have n0_ := Aside0.mk (blk_below (g := gb130) (o := .cells #[.complex .f64 x131000_3.re x131000_3.im, .int .i64 x131001_3] 26 (0, 0)) (by (with_reducible repeat (first | refine blk_drewN ?_ _ | refine blk_drew ?_ | refine blk_alloc ?_ _)); exact BK130.out) hb)
                          have n1_ := Aside0.mk (below_step (by repeat (first | (with_reducible first | exact HB.out | apply below_alloc | apply pw_below_drewN | apply below_drew1 | refine below_set ?_ GE130.out) | exact HB.out)) hb)
                          clear BK130
                          clear HB
                          have BK130 := n0_
                          have HB := n1_
                          clear n0_ n1_
                          (try clear hb)
                          (try clear hb2)
                          (try clear hk)
                          (try clear hi)
                          refine hK.out _ _ ⟨(blk_cell BK130.out 0).trans rfl, (blk_cell BK130.out 1).trans rfl, ((HB.out.cell (World.block_lt_of_cell? w _ hw137_0)).trans hw137_0)⟩ (fun hHeld => ?_)
                          clear hK K
                          refine norm_ (a' := ?_) ?_ ?_
                          rotate_left
                          · show Act.put _ (some 64) _ = _
                            simp only [Act.put, List.setIfInBounds_toArray, List.set_cons_zero, List.set_cons_succ, i64_w, i32_w]
                            rfl
                          refine last_ (i := 6) (N := none) #[true, true, true, true, true, true, true] rfl rfl (by kernel_rfl) (by decide) (fun K hK => ?_)
                          have hs31 : w30.cell? ⟨gb130, 0, none⟩ = some (.complex .f64 x131000_3.re x131000_3.im) := (blk_cell BK130.out 0).trans rfl
                          have hfs31 := blk_frozen BK130.out 0
                          have hs32 : w30.cell? ⟨gb130, 1, none⟩ = some (.int .i64 x131001_3) := (blk_cell BK130.out 1).trans rfl
                          have hfs32 := blk_frozen BK130.out 1
                          refine skip_ (w1 := ?_) (by rfl) rfl ?_ ?_
                          rotate_left
                          · go_simp
                            rfl
                          refine hK.out _ _ ?_
                          clear hK K
                          refine done_ (by kernel_rfl) ?_
                          try go_wp2
                          go_roundg k3
                          case measure => have := HK1.out; have := HJ13.out; have := HK3.out; omega
                          case rel => exact ⟨(wrap64 (x12_3 + 1)), (t138), (t139), (by first | rfl | (simp; done) | (simp [*]; done)), H', ⟨by have := HK1.out; have := HJ13.out; have := HK3.out; omega⟩, ⟨by (with_reducible repeat (first | refine blk_drewN ?_ _ | refine blk_drew ?_ | refine blk_alloc ?_ _)); refine blk_put (cs := #[.complex .f64 t138.re t138.im, .int .i64 x131001_3]) ?_ 1 _ rfl; (with_reducible repeat (first | refine blk_drewN ?_ _ | refine blk_drew ?_ | refine blk_alloc ?_ _)); refine blk_put (cs := #[.complex .f64 x131000_3.re x131000_3.im, .int .i64 x131001_3]) ?_ 0 _ rfl; (with_reducible repeat (first | refine blk_drewN ?_ _ | refine blk_drew ?_ | refine blk_alloc ?_ _)); exact BK130.out⟩, ⟨by repeat (first | (with_reducible first | exact HB.out | apply below_alloc | apply pw_below_drewN | apply below_drew1 | refine below_set ?_ GE130.out) | exact HB.out)⟩⟩
                        · rw [if_neg c27] at H
                          exact absurd H (by simp)
                      · rw [if_neg c26] at H
                        have c26b0 : decide ((wrap64 ((wrap64 (2 * x12_3)) + 2)) < (wrap64 (1 + (Go.bits .and .i64 a1 1023)))) = false := decide_eq_false c26
                        clear c26
                        have H' := Aside0.mk H
                        clear H
                        go_wp2
                        go_meet
                        case rel => exact ⟨_, (x131000_3), (x131001_3), H', ⟨by have := HK1.out; have := HJ13.out; have := HK3.out; first | omega | exact Nat.le_refl _⟩, ⟨by (with_reducible repeat (first | refine blk_drewN ?_ _ | refine blk_drew ?_ | refine blk_alloc ?_ _)); exact BK130.out⟩, ⟨by repeat (first | (with_reducible first | exact HB.out | apply below_alloc | apply pw_below_drewN | apply below_drew1 | refine below_set ?_ GE130.out) | exact HB.out)⟩⟩
                    · rw [if_neg c25] at H
                      have c25b0 : decide (x12_3 < (l2.length : Int)) = false := decide_eq_false c25
                      clear c25
                      (first | rw [c25b0] | (simp only [i64_w, i32_w]; rw [c25b0]) | skip)
                      have H' := Aside0.mk H
                      clear H
                      go_wp2
                      go_meet
                      case rel => exact ⟨_, (x131000_3), (x131001_3), H', ⟨by have := HK1.out; have := HJ13.out; have := HK3.out; first | omega | exact Nat.le_refl _⟩, ⟨by (with_reducible repeat (first | refine blk_drewN ?_ _ | refine blk_drew ?_ | refine blk_alloc ?_ _)); exact BK130.out⟩, ⟨by repeat (first | (with_reducible first | exact HB.out | apply below_alloc | apply pw_below_drewN | apply below_drew1 | refine below_set ?_ GE130.out) | exact HB.out)⟩⟩
              case rest =>
                clear HC24
                try clear c1
                try clear p1
                try clear q1
                try clear hx1
                try clear c2
                try clear p2
                try clear p6
                try clear c7
                try clear c8
                try clear c8b0
                try clear c12
                try clear c13
                try clear p13
                try clear q13
                try clear hx13
                try clear c17
                try clear c19
                try clear c19b0
                try clear c19b1
                try clear c23
                try clear c25
                try clear c25b0
                try clear c26
                try clear c26b0
                try clear c27
                try clear c27b0
                try clear hcz10_0
                try clear hcz10_1
                try clear hcz12_0
                try clear hcz12_1
                try clear hcz15_0
                try clear hcz15_1
                try clear hcz21_0
                try clear hcz21_1
                try clear hcz7_0
                try clear hcz7_1
                try clear hfz10_0
                try clear hfz10_1
                try clear hfz12_0
                try clear hfz12_1
                try clear hfz15_0
                try clear hfz15_1
                try clear hfz21_0
                try clear hfz21_1
                try clear hfz7_0
                try clear hfz7_1
                try clear hx137_0
                try clear p137
                try clear p2
                try clear p6
                try clear q137
                obtain ⟨kq, x131000_23, x131001_23, HA, HJ23, BK130, HB⟩ := hcut
                cases kq with
                | zero => exact absurd HA.out (by simp [sluicewaylaw06_DriftLeans.j3])
                | succ kj23 =>
                  have H := HA.out
                  clear HA
                  simp only [sluicewaylaw06_DriftLeans.j3] at H
                  replace H := Option.bind_eq_some_iff.mp H
                  obtain ⟨⟨t140, t141⟩, A330, H⟩ := H
                  replace H : ((drift_Drift_Shift.f x131000_23 x131001_23 1).bind fun bt142 => ((drift_Drift_Lean.f kj23 bt142.1 bt142.2).bind fun bt144 => (if t129 = true then (if t141 = true then (if bt144.2 = true then ((sluicewayref06_Mod.f a0).bind fun t146 => (if t140 = t146 then (some (bt144.1 == (Int.tmod (wrap64 (t140 + 1)) 4))) else (none))) else (none)) else (none)) else (none)))) = some r := H
                  have A33 := Aside0.mk A330
                  clear A330
                  replace H := Option.bind_eq_some_iff.mp H
                  obtain ⟨⟨t142, t143⟩, A340, H⟩ := H
                  replace H : ((drift_Drift_Lean.f kj23 t142 t143).bind fun bt144 => (if t129 = true then (if t141 = true then (if bt144.2 = true then ((sluicewayref06_Mod.f a0).bind fun t146 => (if t140 = t146 then (some (bt144.1 == (Int.tmod (wrap64 (t140 + 1)) 4))) else (none))) else (none)) else (none)) else (none))) = some r := H
                  have A34 := Aside0.mk A340
                  clear A340
                  replace H := Option.bind_eq_some_iff.mp H
                  obtain ⟨⟨t144, t145⟩, A350, H⟩ := H
                  replace H : (if t129 = true then (if t141 = true then (if t145 = true then ((sluicewayref06_Mod.f a0).bind fun t146 => (if t140 = t146 then (some (t144 == (Int.tmod (wrap64 (t140 + 1)) 4))) else (none))) else (none)) else (none)) else (none)) = some r := H
                  have A35 := Aside0.mk A350
                  clear A350
                  by_cases c36 : t129 = true
                  · subst c36
                    have H1 : (if t141 = true then (if t145 = true then ((sluicewayref06_Mod.f a0).bind fun t146 => (if t140 = t146 then (some (t144 == (Int.tmod (wrap64 (t140 + 1)) 4))) else (none))) else (none)) else (none)) = some r := by rw [if_pos rfl] at H; exact H
                    clear H
                    have H := H1
                    clear H1
                    by_cases c37 : t141 = true
                    · subst c37
                      have H1 : (if t145 = true then ((sluicewayref06_Mod.f a0).bind fun t146 => (if t140 = t146 then (some (t144 == (Int.tmod (wrap64 (t140 + 1)) 4))) else (none))) else (none)) = some r := by rw [if_pos rfl] at H; exact H
                      clear H
                      have H := H1
                      clear H1
                      by_cases c38 : t145 = true
                      · subst c38
                        have H1 : ((sluicewayref06_Mod.f a0).bind fun t146 => (if t140 = t146 then (some (t144 == (Int.tmod (wrap64 (t140 + 1)) 4))) else (none))) = some r := by rw [if_pos rfl] at H; exact H
                        clear H
                        have H := H1
                        clear H1
                        replace H := Option.bind_eq_some_iff.mp H
                        obtain ⟨t146, A390, H⟩ := H
                        replace H : (if t140 = t146 then (some (t144 == (Int.tmod (wrap64 (t140 + 1)) 4))) else (none)) = some r := H
                        have A39 := Aside0.mk A390
                        clear A390
                        by_cases c40 : t140 = t146
                        · rw [if_pos c40] at H
                          have c40b0 : (t140 == t146) = true := beq_iff_eq.mpr c40
                          have c40b1 : (t140 != t146) = false := bne_eq_false_iff_eq.mpr c40
                          clear c40
                          obtain rfl := Option.some.inj H
                          have hcz41_0 : wc.cell? ⟨gb130, 0, none⟩ = some (.complex .f64 x131000_23.re x131000_23.im) := (blk_cell BK130.out 0).trans rfl
                          have hcz41_1 : wc.cell? ⟨gb130, 1, none⟩ = some (.int .i64 x131001_23) := (blk_cell BK130.out 1).trans rfl
                          have hfz41_0 := blk_frozen BK130.out 0
                          have hfz41_1 := blk_frozen BK130.out 1
                          go_wp2_with (first | ((with_reducible refine gate_callee (f := 12) rfl ?_); refine goesL_ (some 67) rfl rfl Try.func12 (by kernel_rfl) rfl #[.agg #[.complex .f64 x131000_23.re x131000_23.im, .int .i64 x131001_23]] rfl (by (try simp only [List.map_toArray, List.map_cons, List.map_nil]); first | done | rfl | (simp only [List.length_drop, List.length_take]; rfl)) ?_; (with_reducible refine (drift_Drift_Lean.calls kj23 x131000_23 x131001_23 t140 true _ A33.out).mono ?_); rintro e w42 ⟨rfl, hb⟩; refine ⟨_, rfl, ?_⟩; have n0_ := Aside0.mk (blk_below (g := gb130) (o := .cells #[.complex .f64 x131000_23.re x131000_23.im, .int .i64 x131001_23] 26 (0, 0)) (by (with_reducible repeat (first | refine blk_drewN ?_ _ | refine blk_drew ?_ | refine blk_alloc ?_ _)); exact BK130.out) hb); have n1_ := Aside0.mk (below_step (by repeat (first | (with_reducible first | exact HB.out | apply below_alloc | apply pw_below_drewN | apply below_drew1 | refine below_set ?_ GE130.out) | exact HB.out)) hb); clear BK130; clear HB; have BK130 := n0_; have HB := n1_; clear n0_ n1_; (try clear hb); (try clear hb2); (try clear hk); (try clear hi); have hcz43_0 : w42.cell? ⟨gb130, 0, none⟩ = some (.complex .f64 x131000_23.re x131000_23.im) := (blk_cell BK130.out 0).trans rfl; have hcz43_1 : w42.cell? ⟨gb130, 1, none⟩ = some (.int .i64 x131001_23) := (blk_cell BK130.out 1).trans rfl; have hfz43_0 := blk_frozen BK130.out 0; have hfz43_1 := blk_frozen BK130.out 1) | ((with_reducible refine gate_callee (f := 19) rfl ?_); refine goesL_ (some 72) rfl rfl Try.func19 (by kernel_rfl) rfl #[.agg #[.complex .f64 x131000_23.re x131000_23.im, .int .i64 x131001_23], .int .i64 1] rfl (by (try simp only [List.map_toArray, List.map_cons, List.map_nil]); first | done | rfl | (simp only [List.length_drop, List.length_take]; rfl)) ?_; (with_reducible refine (drift_Drift_Shift.calls x131000_23 x131001_23 1 t142 t143 _ A34.out).mono ?_); rintro e w44 ⟨rfl, hb⟩; refine ⟨_, rfl, ?_⟩; have n0_ := Aside0.mk (blk_below (g := gb130) (o := .cells #[.complex .f64 x131000_23.re x131000_23.im, .int .i64 x131001_23] 26 (0, 0)) (by (with_reducible repeat (first | refine blk_drewN ?_ _ | refine blk_drew ?_ | refine blk_alloc ?_ _)); exact BK130.out) hb); have n1_ := Aside0.mk (below_step (by repeat (first | (with_reducible first | exact HB.out | apply below_alloc | apply pw_below_drewN | apply below_drew1 | refine below_set ?_ GE130.out) | exact HB.out)) hb); clear BK130; clear HB; have BK130 := n0_; have HB := n1_; clear n0_ n1_; (try clear hb); (try clear hb2); (try clear hk); (try clear hi)) | ((with_reducible refine gate_callee (f := 12) rfl ?_); refine goesL_ (some 73) rfl rfl Try.func12 (by kernel_rfl) rfl #[.agg #[.complex .f64 t142.re t142.im, .int .i64 t143]] rfl (by (try simp only [List.map_toArray, List.map_cons, List.map_nil]); first | done | rfl | (simp only [List.length_drop, List.length_take]; rfl)) ?_; (with_reducible refine (drift_Drift_Lean.calls kj23 t142 t143 t144 true _ A35.out).mono ?_); rintro e w45 ⟨rfl, hb⟩; refine ⟨_, rfl, ?_⟩; have n0_ := Aside0.mk (blk_below (g := gb130) (o := .cells #[.complex .f64 x131000_23.re x131000_23.im, .int .i64 x131001_23] 26 (0, 0)) (by (with_reducible repeat (first | refine blk_drewN ?_ _ | refine blk_drew ?_ | refine blk_alloc ?_ _)); exact BK130.out) hb); have n1_ := Aside0.mk (below_step (by repeat (first | (with_reducible first | exact HB.out | apply below_alloc | apply pw_below_drewN | apply below_drew1 | refine below_set ?_ GE130.out) | exact HB.out)) hb); clear BK130; clear HB; have BK130 := n0_; have HB := n1_; clear n0_ n1_; (try clear hb); (try clear hb2); (try clear hk); (try clear hi)) | (go_at_call 10; (with_reducible refine (sluicewayref06_Mod.calls a0 t146 _ A39.out).mono ?_); rintro e w' ⟨rfl, ⟨nd, rfl⟩⟩))
                          go_ret
                          exact ⟨by first | rfl | (simp [errW_none, errW_some] <;> rfl) | (simp [*, errW_none, errW_some] <;> rfl), by repeat (first | (with_reducible first | exact HB.out | apply below_alloc | apply pw_below_drewN | apply below_drew1 | refine below_set ?_ GE130.out) | exact HB.out)⟩
                        · rw [if_neg c40] at H
                          exact absurd H (by simp)
                      · replace c38 := Bool.eq_false_iff.mpr c38
                        subst c38
                        have H1 : (none) = some r := by rw [if_neg (show ¬ (false = true) by decide)] at H; exact H
                        clear H
                        have H := H1
                        clear H1
                        exact absurd H (by simp)
                    · replace c37 := Bool.eq_false_iff.mpr c37
                      subst c37
                      have H1 : (none) = some r := by rw [if_neg (show ¬ (false = true) by decide)] at H; exact H
                      clear H
                      have H := H1
                      clear H1
                      exact absurd H (by simp)
                  · replace c36 := Bool.eq_false_iff.mpr c36
                    subst c36
                    have H1 : (none) = some r := by rw [if_neg (show ¬ (false = true) by decide)] at H; exact H
                    clear H
                    have H := H1
                    clear H1
                    exact absurd H (by simp)

/-- THE ONE PURE STATEMENT of sluicewaylaw06_DriftLeans: yours. -/
def sluicewaylaw06_DriftLeans.Pure : Prop := ∀ (a0 : Int) (a1 : Int) (l2 : List Int), (Lit.int .i64 a0).wf = true → (Lit.int .i64 a1).wf = true → l2.length ≤ maxLen → l2.length * 8 ≤ 140737488351232 → (∀ x ∈ l2, (Lit.int .i64 x).wf = true) → ∃ k, sluicewaylaw06_DriftLeans.f k a0 a1 l2 = some true
theorem sluicewaylaw06_DriftLeans.walk (P : sluicewaylaw06_DriftLeans.Pure) (a0 : Int) (a1 : Int) (a2 : Option Addr) (len2 cap2 : Nat) (z2 : List Int) (w : World) (w0 : (Lit.int .i64 a0).wf = true) (w1 : (Lit.int .i64 a1).wf = true) (w2 : (a2 = none ∧ len2 = 0 ∧ cap2 = 0 ∧ z2 = []) ∨ ∃ x, a2 = some x ∧ len2 ≤ cap2 ∧ cap2 ≤ maxLen ∧ z2.length = cap2 ∧ (∀ i, i < z2.length → w.cell? (x.add i) = some (.int .i64 (z2.getD i 0))) ∧ ∀ n ∈ z2, (Lit.int .i64 n).wf = true) (y2 : len2 * 8 ≤ 140737488351232) :
    Calls Try.prog 7 #[.int .i64 a0, .int .i64 a1, .slice a2 len2 cap2] w fun e w' => e = .returned (.bool true) ∧ Below w.heap.size w w' := by
  obtain ⟨l2, rfl, hr2, hm2, hw2, hc2⟩ := ReadsInt.ofRowC w2
  obtain ⟨k, h⟩ := P a0 a1 l2 w0 w1 hm2 y2 hw2
  refine (sluicewaylaw06_DriftLeans.calls k a0 a1 _ _ l2 true w (Kd.C_of_reads (d := (0 : Int)) (h1 := fun _ => rfl) hr2) hc2 h).mono ?_
  rintro e w' ⟨rfl, hd⟩
  exact ⟨rfl, hd⟩

end Go.Proofs.Ytnlcgibbonbniaa.GDriftLeans
